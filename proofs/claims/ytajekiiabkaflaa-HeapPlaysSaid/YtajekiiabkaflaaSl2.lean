/-
  The judgments over code: known slots, a list of assertions, the ways out; the laws of control. Program-independent. Conditions: none.
-/
import Derived.Test.YtajekiiabkaflaaSl1
set_option linter.unusedVariables false
set_option linter.unusedSimpArgs false
namespace Go.Sl

/-! ### 1. Slots -/
abbrev Ks := List (Nat × Value)
def look : Ks → Nat → Option Value
  | [], _ => none
  | (j, v) :: K, i => bif Nat.beq j i then some v else look K i
def ev (K : Ks) : Operand → Option Value
  | .tmp t => look K t
  | .const v => some v
  | .global g => some (.pointer (some ⟨g, 0, none⟩))
  | .func f => some (.func (.func f) #[] #[])
def evs (K : Ks) : List Operand → Option (List Value)
  | [] => some []
  | x :: xs => match ev K x, evs K xs with
    | some v, some vs => some (v :: vs)
    | _, _ => none
structure Fr (n : Nat) (K : Ks) (a : Act) : Prop where
  size : a.tmps.size = n
  defers : a.defers = []
  slots : ∀ i v, look K i = some v → a.tmps[i]? = some v
theorem Fr.eval {n : Nat} {K : Ks} {a : Act} (f : Fr n K a) {x : Operand} {v : Value} (h : ev K x = some v) : a.eval x = v := by
  cases x with
  | tmp t => simp [Act.eval, Array.getD_eq_getD_getElem?, f.slots t v h]
  | const c => simpa [ev, Act.eval] using h
  | global g => simpa [ev, Act.eval] using h
  | func g => simpa [ev, Act.eval] using h
theorem Fr.evals {n : Nat} {K : Ks} {a : Act} (f : Fr n K a) : ∀ {xs : List Operand} {vs : List Value}, evs K xs = some vs → xs.map a.eval = vs
  | [], vs, h => by simpa [evs] using h
  | x :: xs, vs, h => by
    unfold evs at h
    split at h
    · rename_i v vs' e1 e2
      obtain rfl := Option.some.inj h
      simp [f.eval e1, f.evals e2]
    · cases h
theorem Fr.put {n d : Nat} {K : Ks} {a : Act} {v : Value} (f : Fr n K a) (hd : Nat.ble (d + 1) n = true) : Fr n ((d, v) :: K) (a.put (some d) v) := by
  have hd' : d < n := Nat.le_of_ble_eq_true hd
  refine ⟨by simp [Act.put, f.size], f.defers, fun i u h => ?_⟩
  show (a.tmps.setIfInBounds d v)[i]? = some u
  rw [Array.getElem?_setIfInBounds]
  unfold look at h
  by_cases e : d = i
  · subst e
    simp at h
    simp [f.size, hd', h]
  · rw [if_neg e]
    refine f.slots i u ?_
    have : Nat.beq d i = false := by
      cases hb : Nat.beq d i with
      | false => rfl
      | true => exact absurd (Nat.eq_of_beq_eq_true hb) e
    simpa [this] using h
/-- Fewer slots are known. -/
def subK : Ks → Ks → Prop
  | [], _ => True
  | (i, v) :: K', K => look K i = some v ∧ subK K' K
theorem subK_look : ∀ {K' K : Ks}, subK K' K → ∀ i v, look K' i = some v → look K i = some v
  | [], _, _, _, _, h => by cases h
  | (j, u) :: K', K, ⟨h1, h2⟩, i, v, h => by
    unfold look at h
    cases e : Nat.beq j i with
    | true =>
      rw [e] at h
      obtain rfl : j = i := Nat.eq_of_beq_eq_true e
      obtain rfl : u = v := by simpa using h
      exact h1
    | false => rw [e] at h; exact subK_look h2 i v h
theorem Fr.sub {n : Nat} {K K' : Ks} {a : Act} (f : Fr n K a) (h : subK K' K) : Fr n K' a := ⟨f.size, f.defers, fun i v e => f.slots i v (subK_look h i v e)⟩

/-! ### 2. Judgments -/
structure Cl (w0 : World) (L : List SP) (w : World) : Prop where
  env : Env w0 w
  sat : Sat L w
theorem Cl.to {w0 w : World} {L L' : List SP} (c : Cl w0 L w) (h : ∀ h, seps L h → seps L' h) : Cl w0 L' w := ⟨c.env, h _ c.sat⟩
abbrev Qt := Exit → Act → World → Prop
section
variable (P : Program) (w0 : World) (n : Nat)
@[irreducible] def Run (c : Code) (K : Ks) (L : List SP) (Q : Qt) : Prop := ∀ a w, Fr n K a → Cl w0 L w → c.wp P Q a w
@[irreducible] def Out (x : Exit) (K : Ks) (L : List SP) (Q : Qt) : Prop := ∀ a w, Fr n K a → Cl w0 L w → Q x a w
/-- A list of operations; m: in whatever order (nothing is written). -/
@[irreducible] def RunM (m : Bool) (ops : Array Oper) (l : List Oper) (K : Ks) (L : List SP) (Q : Qt) : Prop :=
  match m with
  | false => ∀ a w, Fr n K a → Cl w0 L w → wpList P ops Q l a w
  | true => ∀ a, Fr n K a → wpQuiet P ops (Cl w0 L) (fun a' => ∀ w', Cl w0 L w' → Q .normal a' w') l a
/-- What an operation yields, the world being left as it is. -/
@[irreducible] def QOp (op : Op) (K : Ks) (L : List SP) (v : Value) : Prop :=
  ∀ d ty pos af g a w, Fr n K a → Cl w0 L w → (execOp a.eval ⟨d, op, ty, pos, af, g⟩).run P w = .ok (.value v) w
end
attribute [local semireducible] Run Out RunM QOp
class IsFn (P : Program) (f : FuncId) : Prop where
  ex : ∃ fn, P.funcs[f]? = some fn ∧ (fn.name == "runtime.NumGoroutine") = false ∧ fn.body.isNone = false
def Spec (P : Program) (f : FuncId) (args : List Value) (Pre : List SP) (Post : Value → List SP → Prop) : Prop :=
  IsFn P f ∧ ∀ w0 R w, Cl w0 (Pre ++ R) w → Calls P f args.toArray w fun e w' => ∃ v L', e = .returned v ∧ Post v L' ∧ Cl w0 (L' ++ R) w'
/-- A function that answers r and leaves what it reads as it was. -/
def Reads (P : Program) (f : FuncId) (args : List Value) (Pre : List SP) (r : Value) : Prop := Spec P f args Pre fun v L' => v = r ∧ L' = Pre
def RetQ (P : Program) (fn : Func) (w0 : World) (R : List SP) (Post : Value → List SP → Prop) : Qt :=
  bodyPost P fn fun e w' => ∃ v L', e = .returned v ∧ Post v L' ∧ Cl w0 (L' ++ R) w'
def enumK : Nat → List Value → Ks
  | _, [] => []
  | i, v :: vs => (i, v) :: enumK (i + 1) vs

theorem look_enumK : ∀ (vs : List Value) (k i : Nat) (v : Value), look (enumK k vs) i = some v → k ≤ i ∧ vs[i - k]? = some v
  | [], _, _, _, h => by cases h
  | u :: vs, k, i, v, h => by
    simp only [enumK, look] at h
    cases e : Nat.beq k i with
    | true =>
      rw [e] at h
      obtain rfl : k = i := Nat.eq_of_beq_eq_true e
      obtain rfl : u = v := by simpa using h
      exact ⟨Nat.le_refl _, by simp⟩
    | false =>
      rw [e] at h
      obtain ⟨h1, h2⟩ := look_enumK vs (k + 1) i v h
      refine ⟨by omega, ?_⟩
      rw [show i - k = (i - (k + 1)) + 1 by omega]
      simpa using h2

theorem spec_intro {P : Program} {f : FuncId} {fn : Func} {c : Code} {n : Nat} {args : List Value} {Pre : List SP} {Post : Value → List SP → Prop}
    (hf : P.funcs[f]? = some fn) (hb : fn.body = some c) (hn : (fn.name == "runtime.NumGoroutine") = false) (hk : fn.ntmps = n) (hs : Nat.ble args.length n = true)
    (h : ∀ w0 R, Run P w0 n c (enumK 0 args) (Pre ++ R) (RetQ P fn w0 R Post)) : Spec P f args Pre Post := by
  refine ⟨⟨fn, hf, hn, by simp [hb]⟩, fun w0 R w hc => calls_of_wp hf hb ?_⟩
  refine h w0 R _ _ ⟨?_, rfl, fun i v e => ?_⟩ hc
  · have := Nat.le_of_ble_eq_true hs
    simp [hk]; omega
  · have := (look_enumK args 0 i v e).2
    have h1 : args[i]? = some v := by simpa using this
    have h2 : i < args.length := (List.getElem?_eq_some_iff.1 h1).1
    show (args.toArray ++ _)[i]? = some v
    rw [Array.getElem?_append_left (by simpa using h2)]
    simpa using h1
/-- The same under a hypothesis on calls of itself: by induction. -/
theorem spec_fn {P : Program} {f : FuncId} {args : List Value} {Pre : List SP} {Post : Value → List SP → Prop} (h : Spec P f args Pre Post) : IsFn P f := h.1
theorem Spec.mono {P : Program} {f : FuncId} {args : List Value} {Pre : List SP} {Post Post' : Value → List SP → Prop} (h : Spec P f args Pre Post)
    (m : ∀ v L, Post v L → ∃ L', Post' v L' ∧ ∀ h, seps L h → seps L' h) : Spec P f args Pre Post' := by
  refine ⟨h.1, fun w0 R w hc => (h.2 w0 R w hc).mono ?_⟩
  rintro e w' ⟨v, L', rfl, hp, hc'⟩
  obtain ⟨L2, h1, h2⟩ := m v L' hp
  refine ⟨v, L2, rfl, h1, hc'.to fun h hs => ?_⟩
  obtain ⟨a, b, c, d, e, f⟩ := seps_app.1 hs
  exact seps_app.2 ⟨a, b, c, d, h2 _ e, f⟩

section
variable {P : Program} {w0 : World} {n : Nat} {K : Ks} {L : List SP} {Q : Qt}

/-! ### 3. Control -/
theorem run_seq {x y : Code} (h : Run P w0 n x K L (Exit.then (y.wp P Q) Q)) : Run P w0 n (.seq x y) K L Q := fun a w f c => wp_seq (h a w f c)
theorem run_block {id : Nat} {x : Code} (h : Run P w0 n x K L (Exit.inBlock id Q)) : Run P w0 n (.block id x) K L Q := fun a w f c => wp_block (h a w f c)
theorem run_skip (h : Out w0 n .normal K L Q) : Run P w0 n .skip K L Q := fun a w f c => wp_skip (h a w f c)
theorem run_ret (h : Out w0 n .ret K L Q) : Run P w0 n .ret K L Q := fun a w f c => wp_ret (h a w f c)
theorem run_exit {id : Nat} (h : Out w0 n (.exit id) K L Q) : Run P w0 n (.exit id) K L Q := fun a w f c => wp_exit (h a w f c)
theorem run_cond_t {x : Operand} {y z : Code} (hx : ev K x = some (.bool true)) (h : Run P w0 n y K L Q) : Run P w0 n (.cond x y z) K L Q :=
  fun a w f c => wp_cond_true (f.eval hx) (h a w f c)
theorem run_cond_f {x : Operand} {y z : Code} (hx : ev K x = some (.bool false)) (h : Run P w0 n z K L Q) : Run P w0 n (.cond x y z) K L Q :=
  fun a w f c => wp_cond_false (f.eval hx) (h a w f c)
theorem run_cond {x : Operand} {y z : Code} {b : Bool} (hx : ev K x = some (.bool b)) (ht : b = true → Run P w0 n y K L Q) (hf : b = false → Run P w0 n z K L Q) :
    Run P w0 n (.cond x y z) K L Q := fun a w f c => wp_cond_split (f.eval hx) (fun e => ht e a w f c) (fun e => hf e a w f c)
theorem run_region {id : Nat} {l : List Oper} (h : RunM P w0 n false l.toArray l K L Q) : Run P w0 n (.region id l.toArray false) K L Q :=
  fun a w f c => wp_region_lit (h a w f c)
theorem run_region_q {id : Nat} {l : List Oper} (hm : P.follows .mixedOrders = true) (hB : Region.lexB .any l.toArray = true) (h : RunM P w0 n true l.toArray l K L Q) :
    Run P w0 n (.region id l.toArray true) K L Q := fun a w f c =>
  wp_region_quiet (C := Cl w0 L) hm hB ⟨c.env.drew, c.sat⟩ (by simpa using h a f)
theorem run_sub {c : Code} {K' : Ks} (s : subK K' K) (h : Run P w0 n c K' L Q) : Run P w0 n c K L Q := fun a w f hc => h a w (f.sub s) hc
theorem run_L {c : Code} {L' : List SP} (s : Ent L L') (h : Run P w0 n c K L' Q) : Run P w0 n c K L Q := fun a w f hc => h a w f (hc.to s.to)
theorem out_L {x : Exit} {L' : List SP} (s : Ent L L') (h : Out w0 n x K L' Q) : Out w0 n x K L Q := fun a w f hc => h a w f (hc.to s.to)

theorem out_then {y : Code} {Q' : Qt} (h : Run P w0 n y K L Q) : Out w0 n .normal K L (Exit.then (y.wp P Q) Q') := h
theorem out_then_ret {k : Act → World → Prop} (h : Out w0 n .ret K L Q) : Out w0 n .ret K L (Exit.then k Q) := h
theorem out_then_exit {k : Act → World → Prop} {id : Nat} (h : Out w0 n (.exit id) K L Q) : Out w0 n (.exit id) K L (Exit.then k Q) := h
theorem out_blk {id : Nat} (h : Out w0 n .normal K L Q) : Out w0 n .normal K L (Exit.inBlock id Q) := h
theorem out_blk_ret {id : Nat} (h : Out w0 n .ret K L Q) : Out w0 n .ret K L (Exit.inBlock id Q) := h
theorem out_blk_eq {id : Nat} (h : Out w0 n .normal K L Q) : Out w0 n (.exit id) K L (Exit.inBlock id Q) := fun a w f c => by
  show (if id = id then _ else _)
  rw [if_pos rfl]; exact h a w f c
theorem out_blk_ne {id id' : Nat} (e : Nat.beq id' id = false) (h : Out w0 n (.exit id') K L Q) : Out w0 n (.exit id') K L (Exit.inBlock id Q) := fun a w f c => by
  show (if id' = id then _ else _)
  rw [if_neg (fun h => by subst h; simp at e)]; exact h a w f c

/-- A loop: the state at each round's head is one of I's. -/
theorem run_loop {α : Type} {c : Code} (I : α → Ks → List SP → Prop) (μ : α → Nat) (x : α) (h0 : I x K L)
    (h : ∀ x K L, I x K L → Run P w0 n c K L (Exit.then (fun a' w' => ∃ y K' L', I y K' L' ∧ μ y < μ x ∧ Fr n K' a' ∧ Cl w0 L' w') Q)) : Run P w0 n (.loop c) K L Q := by
  intro a w f hc
  have key : ∀ (m : Nat) (x : α), μ x = m → ∀ K L, I x K L → ∀ a w, Fr n K a → Cl w0 L w → ∀ (b : Frame) (k : List Item) (cs : List Frame),
      ∃ e a' w', Q e a' w' ∧ Arrives P (lone (b.at a (.code c :: .inLoop c :: k)) cs w) b k cs e a' w' := by
    intro m
    induction m using Nat.strongRecOn with
    | _ m ih =>
      intro x hm K L hI a w f hc b k cs
      obtain ⟨e, a1, w1, hq, harr⟩ := h x K L hI a w f hc b (.inLoop c :: k) cs
      cases e with
      | normal =>
        obtain ⟨y, K', L', hI', hlt, f', c'⟩ := hq
        obtain ⟨e2, a2, w2, hq2, harr2⟩ := ih (μ y) (hm ▸ hlt) y rfl K' L' hI' a1 w1 f' c' b k cs
        exact ⟨e2, a2, w2, hq2, .of_steps (Steps.trans harr (.one step_inLoop)) harr2⟩
      | exit id => exact ⟨_, a1, w1, hq, .pass (x := .inLoop c) rfl (fun _ _ => .inl (by simp)) harr⟩
      | goto l => exact ⟨_, a1, w1, hq, .pass (x := .inLoop c) rfl (fun _ _ => .inl (by simp)) harr⟩
      | ret => exact ⟨_, a1, w1, hq, .pass (x := .inLoop c) rfl (fun _ _ => .inl (by simp)) harr⟩
      | panic ch => exact ⟨_, a1, w1, hq, .pass (x := .inLoop c) rfl (fun _ _ => .inl (by simp)) harr⟩
      | outgrown => exact ⟨_, a1, w1, hq, .pass (x := .inLoop c) rfl (fun _ _ => .inl (by simp)) harr⟩
  intro b k cs
  obtain ⟨e, a', w', hq, harr⟩ := key _ x rfl K L h0 a w f hc b k cs
  exact ⟨e, a', w', hq, .of_steps (.one step_loop) harr⟩
theorem out_round {α : Type} {I : α → Ks → List SP → Prop} {μ : α → Nat} {x y : α} {K' : Ks} {L' : List SP} (s : subK K' K) (t : Ent L L') (hI : I y K' L') (hlt : μ y < μ x) :
    Out w0 n .normal K L (Exit.then (fun a' w' => ∃ y K' L', I y K' L' ∧ μ y < μ x ∧ Fr n K' a' ∧ Cl w0 L' w') Q) :=
  fun a w f c => ⟨y, K', L', hI, hlt, f.sub s, c.to t.to⟩

/-! ### 4. Lists of operations -/
variable {m : Bool} {ops : Array Oper} {rest : List Oper} {ty : TypeId} {pos : String} {af : Array Edge}
theorem runM_nil (h : Out w0 n .normal K L Q) : RunM P w0 n m ops [] K L Q := by
  cases m
  · exact fun a w f c => h a w f c
  · exact fun a f w' c => h a w' f c
theorem put_some (a : Act) (d : Nat) (v : Value) : a.put (some d) v = { a with tmps := a.tmps.setIfInBounds d v } := rfl
theorem runM_q {d : Nat} {op : Op} {v : Value} (hd : Nat.ble (d + 1) n = true) (hq : QOp P w0 n op K L v) (h : RunM P w0 n m ops rest ((d, v) :: K) L Q) :
    RunM P w0 n m ops (⟨some d, op, ty, pos, af, none⟩ :: rest) K L Q := by
  cases m
  · intro a w f c
    refine wpList_plain rfl fun k hk => ?_
    show Oper.upon P _ _ _ _ _
    rw [hq (some d) ty pos af none a w f c]
    exact hk _ _ (h _ _ (f.put hd) c)
  · intro a f
    refine wpQuiet_step fun k hk => ?_
    rw [if_pos (show Region.wanted _ _ = true from rfl)]
    refine ⟨v, fun w c => ?_, hk _ (h _ (f.put hd))⟩
    unfold Oper.quietAt
    rw [hq (some d) ty pos af none a w f c]
    exact ⟨rfl, rfl⟩
/-- An operation that writes: one run of it from each state. -/
theorem runM_w {d : Option Nat} {op : Op} (h : ∀ a w, Fr n K a → Cl w0 L w → ∃ v w', ((execOp a.eval ⟨d, op, ty, pos, af, none⟩).run P w = .ok (.value v) w' ∨ ((execOp a.eval ⟨d, op, ty, pos, af, none⟩).run P w = .ok .skip w' ∧ v = undef)) ∧
      ∃ K' L', Fr n K' (a.put d v) ∧ Cl w0 L' w' ∧ RunM P w0 n false ops rest K' L' Q) :
    RunM P w0 n false ops (⟨d, op, ty, pos, af, none⟩ :: rest) K L Q := by
  intro a w f c
  obtain ⟨v, w', hr, K', L', f', c', hR⟩ := h a w f c
  refine wpList_plain rfl fun k hk => ?_
  show Oper.upon P _ _ _ _ _
  rcases hr with hr | ⟨hr, rfl⟩
  · rw [hr]; exact hk _ _ (hR _ _ f' c')
  · rw [hr]; exact hk _ _ (hR _ _ f' c')
def yl (ops : Array Oper) (K : Ks) (j : Nat) : Option Bool :=
  match (ops[j]?).bind (·.dst) with
  | some d => match look K d with
    | some (.bool b) => some b
    | _ => none
  | none => none
theorem yl_yielded {K : Ks} {a : Act} (f : Fr n K a) {j : Nat} {b : Bool} (h : yl ops K j = some b) : yielded ops a.tmps j = some b := by
  unfold yl at h
  unfold yielded
  split at h
  · rename_i d e
    rw [e]
    split at h
    · rename_i b' e'
      simp [f.slots d _ e']
      simpa using h
    · cases h
  · cases h
theorem runM_guard {d : Option Nat} {op : Op} {j : Nat} {b : Bool} (hy : yl ops K j = some b) (h : RunM P w0 n m ops (⟨d, op, ty, pos, af, none⟩ :: rest) K L Q) :
    RunM P w0 n m ops (⟨d, op, ty, pos, af, some (j, b)⟩ :: rest) K L Q := by
  cases m
  · intro a w f c
    have h1 := h a w f c
    unfold wpList at h1 ⊢
    rw [if_pos (show Region.wanted _ _ = true from rfl)] at h1
    rw [if_pos (by simp [Region.wanted, yl_yielded f hy])]
    exact h1
  · intro a f
    have h1 := h a f
    unfold wpQuiet at h1 ⊢
    rw [if_pos (show Region.wanted _ _ = true from rfl)] at h1
    rw [if_pos (by simp [Region.wanted, yl_yielded f hy])]
    exact h1
theorem runM_skip {d : Nat} {op : Op} {j : Nat} {b b' : Bool} (hd : Nat.ble (d + 1) n = true) (hy : yl ops K j = some b') (hb : (b' == b) = false) (h : RunM P w0 n m ops rest ((d, undef) :: K) L Q) :
    RunM P w0 n m ops (⟨some d, op, ty, pos, af, some (j, b)⟩ :: rest) K L Q := by
  cases m
  · intro a w f c
    unfold wpList
    rw [if_neg (by simp [Region.wanted, yl_yielded f hy]; simpa using hb)]
    exact h _ _ (f.put hd) c
  · intro a f
    unfold wpQuiet
    rw [if_neg (by simp [Region.wanted, yl_yielded f hy]; simpa using hb)]
    exact h _ (f.put hd)
theorem runM_L {L' : List SP} (s : Ent L L') (h : RunM P w0 n false ops rest K L' Q) : RunM P w0 n false ops rest K L Q := fun a w f c => h a w f (c.to s.to)
theorem runM_sub {K' : Ks} (s : subK K' K) (h : RunM P w0 n m ops rest K' L Q) : RunM P w0 n m ops rest K L Q := by
  cases m
  · exact fun a w f c => h a w (f.sub s) c
  · exact fun a f => h a (f.sub s)

/-! ### 5. Calls -/
theorem run_callFunc {f : FuncId} (hf : IsFn P f) (args : Array Value) (w : World) : (callFunc f args).run P w = .ok (.enter f args) w := by
  obtain ⟨fn, h1, h2, h3⟩ := hf.ex
  have h4 : fn.body.isNone = false := h3
  have h2' : ¬ fn.name = "runtime.NumGoroutine" := by simpa using h2
  have h5 : ¬ fn.body = none := fun e => by simp [e] at h4
  simp [callFunc, h1, h2', h5]
theorem exec_call {K : Ks} {a : Act} (fr : Fr n K a) {f : FuncId} (hf : IsFn P f) {x : Operand} {xs : List Operand} {ts : Array TypeId} {fst cap vs : List Value} {d : Option Nat} {g : Option (Nat × Bool)}
    (hx : ev K x = some (.func (.func f) fst.toArray cap.toArray)) (hxs : evs K xs = some vs) (w : World) :
    (execOp a.eval ⟨d, .call ⟨.value x, xs.toArray, ts⟩, ty, pos, af, g⟩).run P w = .ok (.enter f (fst ++ vs ++ cap).toArray) w := by
  simp [execOp, resolve, fr.eval hx, Deferred.ofValue, invoke, fr.evals hxs, run_callFunc hf]
theorem call_any {d : Option Nat} {f : FuncId} {x : Operand} {xs : List Operand} {ts : Array TypeId} {fst cap vs : List Value} {Pre R : List SP} {Post : Value → List SP → Prop}
    (hx : ev K x = some (.func (.func f) fst.toArray cap.toArray)) (hxs : evs K xs = some vs) (hs : Spec P f (fst ++ vs ++ cap) Pre Post) (hL : ∀ h, seps L h → seps (Pre ++ R) h)
    (h : ∀ v L', Post v L' → ∀ a w, Fr n K a → Cl w0 (L' ++ R) w → wpList P ops Q rest (a.put d v) w) :
    RunM P w0 n false ops (⟨d, .call ⟨.value x, xs.toArray, ts⟩, ty, pos, af, none⟩ :: rest) K L Q := by
  intro a w f c
  refine wpList_plain rfl fun k hk => ?_
  show Oper.upon P _ _ _ _ _
  rw [exec_call f hs.1 hx hxs w]
  refine (hs.2 w0 R w (c.to hL)).mono ?_
  rintro e w' ⟨v, L', rfl, hp, hc⟩
  exact hk _ _ (h v L' hp a w' f hc)
theorem call_spec {d : Nat} {f : FuncId} {xs : List Operand} {ts : Array TypeId} {vs : List Value} {Pre R : List SP} {Post : Value → List SP → Prop}
    (hs : Spec P f vs Pre Post) (hd : Nat.ble (d + 1) n = true) (hxs : evs K xs = some vs) (hL : Split L Pre R)
    (h : ∀ v L', Post v L' → RunM P w0 n false ops rest ((d, v) :: K) (L' ++ R) Q) :
    RunM P w0 n false ops (⟨some d, .call ⟨.value (.func f), xs.toArray, ts⟩, ty, pos, af, none⟩ :: rest) K L Q :=
  call_any (x := .func f) (fst := []) (cap := []) rfl hxs (by simpa using hs) hL.to fun v L' hp a w f c => h v L' hp _ _ (f.put hd) c
theorem call_proc {f : FuncId} {xs : List Operand} {ts : Array TypeId} {vs : List Value} {Pre R : List SP} {Post : Value → List SP → Prop}
    (hs : Spec P f vs Pre Post) (hxs : evs K xs = some vs) (hL : Split L Pre R)
    (h : ∀ v L', Post v L' → RunM P w0 n false ops rest K (L' ++ R) Q) :
    RunM P w0 n false ops (⟨none, .call ⟨.value (.func f), xs.toArray, ts⟩, ty, pos, af, none⟩ :: rest) K L Q :=
  call_any (x := .func f) (fst := []) (cap := []) rfl hxs (by simpa using hs) hL.to fun v L' hp a w f c => h v L' hp _ _ f c
theorem call_val {d : Nat} {f : FuncId} {x : Operand} {xs : List Operand} {ts : Array TypeId} {fst cap vs : List Value} {Pre R : List SP} {Post : Value → List SP → Prop}
    (hs : Spec P f (fst ++ vs ++ cap) Pre Post) (hd : Nat.ble (d + 1) n = true) (hx : ev K x = some (.func (.func f) fst.toArray cap.toArray)) (hxs : evs K xs = some vs) (hL : Split L Pre R)
    (h : ∀ v L', Post v L' → RunM P w0 n false ops rest ((d, v) :: K) (L' ++ R) Q) :
    RunM P w0 n false ops (⟨some d, .call ⟨.value x, xs.toArray, ts⟩, ty, pos, af, none⟩ :: rest) K L Q :=
  call_any hx hxs hs hL.to fun v L' hp a w f c => h v L' hp _ _ (f.put hd) c
/-- A call that only reads: in either mode. -/
theorem call_reads {d : Nat} {f : FuncId} {xs : List Operand} {ts : Array TypeId} {vs : List Value} {Pre R : List SP} {r : Value}
    (hs : Reads P f vs Pre r) (hd : Nat.ble (d + 1) n = true) (hxs : evs K xs = some vs) (hL : Split L Pre R) (hB : Ent (Pre ++ R) L)
    (h : RunM P w0 n m ops rest ((d, r) :: K) L Q) :
    RunM P w0 n m ops (⟨some d, .call ⟨.value (.func f), xs.toArray, ts⟩, ty, pos, af, none⟩ :: rest) K L Q := by
  have hB' : ∀ h, seps (Pre ++ R) h → seps L h := hB.to
  cases m
  · refine call_any (x := .func f) (fst := []) (cap := []) rfl hxs (by rw [List.nil_append, List.append_nil]; exact hs) hL.to ?_
    rintro v L' ⟨rfl, rfl⟩ a w f c
    exact h _ _ (f.put hd) (c.to hB')
  · intro a fr
    refine wpQuiet_step fun k hk => ?_
    rw [if_pos (show Region.wanted _ _ = true from rfl)]
    refine ⟨r, fun w c => ?_, hk _ (h _ (fr.put hd))⟩
    unfold Oper.quietAt
    rw [exec_call (fst := []) (cap := []) fr hs.1 rfl hxs w]
    refine ⟨rfl, ?_⟩
    simp only [List.nil_append, List.append_nil]
    refine (hs.2 w0 R w (c.to hL.to)).mono ?_
    rintro e w' ⟨v, L', rfl, ⟨rfl, rfl⟩, hc⟩
    exact ⟨rfl, hc.to hB'⟩
/-- A function of its arguments alone. -/
theorem call_pure {d : Nat} {f : FuncId} {xs : List Operand} {ts : Array TypeId} {vs : List Value} {r : Value}
    (hs : Reads P f vs [] r) (hd : Nat.ble (d + 1) n = true) (hxs : evs K xs = some vs) (h : RunM P w0 n m ops rest ((d, r) :: K) L Q) :
    RunM P w0 n m ops (⟨some d, .call ⟨.value (.func f), xs.toArray, ts⟩, ty, pos, af, none⟩ :: rest) K L Q :=
  call_reads (Pre := []) (R := L) hs hd hxs split_nil ⟨fun h hs => hs⟩ h
end
end Go.Sl
