/-
  Slices that are owned: their elements by an encoding; index, load, store, append, copy. Program-independent. Conditions: none.
-/
import Derived.Test.YtajekiiabkaflaaSl4
import Derived.Maps.AppendAt
set_option linter.unusedVariables false
set_option linter.unusedSimpArgs false
namespace Go.Sl
attribute [local semireducible] Run Out RunM QOp

/-- How an element lies in cells. -/
structure Enc (α : Type) where
  f : α → List Value
  sz : Nat
  len : ∀ a, (f a).length = sz
  one : ∀ a, (f a).all (·.oneCell') = true
  pos : 0 < sz
/-- The slice at A, of capacity cap, holds xs, and is nobody else's. -/
def sl {α : Type} (E : Enc α) (e : TypeId) (A : Option Addr) (cap : Nat) (xs : List α) : SP := fun h =>
  (A = none ∧ cap = 0 ∧ xs = []) ∨ ∃ g sp, A = some ⟨g, 0, none⟩ ∧ h g = some (.cells (xs.flatMap E.f ++ sp).toArray e (0, 0)) ∧ xs.length * E.sz + sp.length = cap * E.sz ∧ xs.length ≤ cap ∧ cap ≤ maxLen
def bk (A : Option Addr) : Nat := match A with
  | some a => a.block
  | none => 0
theorem sl_nil {α : Type} {E : Enc α} {e : TypeId} {h : Hp} : sl E e none 0 [] h := .inl ⟨rfl, rfl, rfl⟩
theorem ent_nil_sl {α : Type} {E : Enc α} {e : TypeId} {L : List SP} : Ent L (sl E e none 0 [] :: L) :=
  ⟨fun h hs => ⟨fun _ => none, h, fun _ => .inl rfl, by funext i; simp [join], sl_nil, hs⟩⟩
section
variable {α : Type} {E : Enc α}
theorem flat_len (xs : List α) : (xs.flatMap E.f).length = xs.length * E.sz := by
  induction xs with
  | nil => simp
  | cons x xs ih => simp [ih, E.len, Nat.add_mul, Nat.add_comm]
theorem flat_seg (xs : List α) : ∀ (k : Nat) (a : α) (sp : List Value), xs[k]? = some a → ((xs.flatMap E.f ++ sp).drop (k * E.sz)).take E.sz = E.f a := by
  induction xs with
  | nil => intro k a sp h; simp at h
  | cons x xs ih =>
    intro k a sp h
    cases k with
    | zero =>
      obtain rfl : x = a := by simpa using h
      simp [List.append_assoc, E.len]
    | succ k =>
      have h' : xs[k]? = some a := by simpa using h
      have e : (k + 1) * E.sz = (E.f x).length + k * E.sz := by rw [E.len, Nat.add_mul]; omega
      rw [e]
      simp only [List.flatMap_cons, List.append_assoc, ← List.drop_drop, List.drop_left]
      exact ih k a sp h'
theorem flat_cell (xs : List α) (k j : Nat) (a : α) (sp : List Value) (v : Value) (h : xs[k]? = some a) (hv : (E.f a)[j]? = some v) : (xs.flatMap E.f ++ sp)[k * E.sz + j]? = some v := by
  have h1 := flat_seg (E := E) xs k a sp h
  have hj : j < E.sz := by
    have := (List.getElem?_eq_some_iff.1 hv).1
    rwa [E.len] at this
  rw [← h1, List.getElem?_take, if_pos hj, List.getElem?_drop] at hv
  exact hv
theorem flat_set (xs : List α) : ∀ (k : Nat) (a a' : α) (sp : List Value), xs[k]? = some a → putL (xs.flatMap E.f ++ sp) (k * E.sz) (E.f a') = (xs.set k a').flatMap E.f ++ sp := by
  induction xs with
  | nil => intro k a a' sp h; simp at h
  | cons x xs ih =>
    intro k a a' sp h
    cases k with
    | zero =>
      simp only [putL, Nat.zero_mul, List.take_zero, List.nil_append, Nat.zero_add, List.set_cons_zero, List.flatMap_cons, List.append_assoc]
      rw [E.len, ← E.len x, List.drop_left]
    | succ k =>
      have h' : xs[k]? = some a := by simpa using h
      have e : (k + 1) * E.sz = (E.f x).length + k * E.sz := by rw [E.len, Nat.add_mul]; omega
      have ih' := ih k a a' sp h'
      simp only [putL] at ih' ⊢
      rw [e]
      simp only [List.flatMap_cons, List.append_assoc, List.set_cons_succ, Nat.add_assoc] at ih' ⊢
      rw [List.take_length_add_append, List.drop_length_add_append, List.append_assoc, ih']
theorem putL_one (l : List Value) (k : Nat) (v : Value) (h : k < l.length) : putL l k [v] = l.set k v := by
  rw [List.set_eq_take_append_cons_drop, if_pos h]
  simp [putL]
theorem putL_cell (l : List Value) (b s j : Nat) (seg : List Value) (v : Value) (hs : (l.drop b).take s = seg) (hl : seg.length = s) (hj : j < s) : putL l (b + j) [v] = putL l b (seg.set j v) := by
  have hb : b + s ≤ l.length := by
    have := congrArg List.length hs
    simp [hl] at this
    omega
  have el : l = l.take b ++ (seg ++ l.drop (b + s)) := by
    rw [← hs, ← List.drop_drop, List.take_append_drop, List.take_append_drop]
  have e1 : (l.take b).length = b := by simp; omega
  rw [putL_one _ _ _ (by omega)]
  have e2 : putL l b (seg.set j v) = l.take b ++ (seg.set j v ++ l.drop (b + s)) := by simp [putL, hl]
  rw [e2]
  have e3 : l.set (b + j) v = (l.take b ++ (seg ++ l.drop (b + s))).set (b + j) v := by rw [← el]
  rw [e3, List.set_append, if_neg (by omega), e1, Nat.add_sub_cancel_left, List.set_append, if_pos (by omega)]
end

section
variable {α : Type} {E : Enc α} {P : Program} {w0 : World} {n : Nat} {K : Ks} {L R : List SP} {Q : Qt} {m : Bool} {ops : Array Oper} {rest : List Oper} {ty : TypeId} {pos : String} {af : Array Edge} {d : Nat} {e : TypeId} {A : Option Addr} {cap : Nat} {xs : List α}
theorem seps_hd {B : SP} {M : List SP} {h : Hp} (hs : seps (B :: M) h) : ∃ h1, B h1 ∧ ∀ b o, h1 b = some o → h b = some o := by
  obtain ⟨h1, h2, a, rfl, hA, _⟩ := hs
  exact ⟨h1, hA, fun b o hb => by simp [join, hb]⟩
theorem Cl.sl {w : World} (c : Cl w0 L w) (h : Has L (Sl.sl E e A cap xs) R) (hp : 0 < xs.length) : ∃ g sp, A = some ⟨g, 0, none⟩ ∧ w.heap[g]? = some (.cells (xs.flatMap E.f ++ sp).toArray e (0, 0)) ∧ xs.length * E.sz + sp.length = cap * E.sz ∧ xs.length ≤ cap ∧ cap ≤ maxLen := by
  obtain ⟨h1, hA, hm⟩ := seps_hd (c.sat.has h)
  rcases hA with ⟨_, _, rfl⟩ | ⟨g, sp, e1, e2, e3⟩
  · simp at hp
  · exact ⟨g, sp, e1, hm _ _ e2, e3⟩
/-- An element's place. -/
theorem q_indexAddr {t sz by_ : Nat} {x y : Operand} {k : IntKind} {i : Int} {len : Nat} [ht : TSlice P t e sz by_] (hx : ev K x = some (.slice A len cap)) (hy : ev K y = some (.int k i)) (hh : Has L (sl E e A cap xs) R) (hl : len = xs.length)
    (h0 : 0 ≤ i ∧ i.toNat < xs.length) : QOp P w0 n (.indexAddr t x y) K L (.pointer (some ⟨bk A, i.toNat * sz, none⟩)) := fun d ty pos af g a w f c => by
  subst hl
  obtain ⟨b, sp, rfl, hb, _⟩ := c.sl hh (by omega)
  have hk := ht.ok
  unfold tsliceB at hk
  split at hk
  · rename_i e' hu
    simp only [Bool.and_eq_true, beq_iff_eq] at hk
    obtain ⟨rfl, hk2⟩ := hk
    cases hi : P.info? e' with
    | none => simp [hi] at hk2
    | some inf =>
      have hsz : inf.size = sz ∧ inf.bytes = by_ := by simpa [hi] using hk2
      have h1 : i < xs.length := by omega
      simp [execOp, f.eval hx, f.eval hy, Instr.indexAt, asIntOf, run_underlying hu, sizeOf, typeInfo, hi, hsz.1, h0.1, h1, Addr.add_lit, bk]
  · cases hk
/-- An element is read. -/
theorem m_load_el {t s k sz : Nat} {x : Operand} [ht : TAgg P t s] (hd : Nat.ble (d + 1) n = true) (hx : ev K x = some (.pointer (some ⟨bk A, k * sz, none⟩))) (hh : Has L (sl E e A cap xs) R) (hz : E.sz = sz) (hs : s = sz) (hk : k < xs.length)
    (h : ∀ a, xs[k]? = some a → RunM P w0 n m ops rest ((d, .agg (E.f a).toArray) :: K) L Q) : RunM P w0 n m ops (⟨some d, .load t x, ty, pos, af, none⟩ :: rest) K L Q := by
  subst hz hs
  refine runM_q hd (v := .agg (E.f xs[k]).toArray) (fun d ty pos af g a w f c => ?_) (h _ (List.getElem?_eq_getElem hk))
  obtain ⟨b, sp, rfl, hb, _⟩ := c.sl hh (by omega)
  have := run_loadVar_agg (P := P) ht.ok hb (flat_seg (E := E) xs k _ sp (List.getElem?_eq_getElem hk)) (E.len _)
  simp [execOp, f.eval hx, Instr.loadAt, Instr.sureAddr, bk, this]
theorem m_load_elc {t k j sz : Nat} {x : Operand} {v : α → Value} [ht : TCell P t] (hd : Nat.ble (d + 1) n = true) (hx : ev K x = some (.pointer (some ⟨bk A, k * sz + j, none⟩))) (hh : Has L (sl E e A cap xs) R) (hz : E.sz = sz) (hk : k < xs.length) (hv : ∀ a, (E.f a)[j]? = some (v a))
    (h : ∀ a, xs[k]? = some a → RunM P w0 n m ops rest ((d, v a) :: K) L Q) : RunM P w0 n m ops (⟨some d, .load t x, ty, pos, af, none⟩ :: rest) K L Q := by
  subst hz
  refine runM_q hd (v := v xs[k]) (fun d ty pos af g a w f c => ?_) (h _ (List.getElem?_eq_getElem hk))
  obtain ⟨b, sp, rfl, hb, _⟩ := c.sl hh (by omega)
  have := run_loadVar_cell (P := P) ht.ok hb (flat_cell (E := E) xs k j _ sp _ (List.getElem?_eq_getElem hk) (hv _))
  simp [execOp, f.eval hx, Instr.loadAt, Instr.sureAddr, bk, this]
theorem m_load_el1 {t k : Nat} {x : Operand} {v : α → Value} [ht : TCell P t] (hd : Nat.ble (d + 1) n = true) (hx : ev K x = some (.pointer (some ⟨bk A, k * 1, none⟩))) (hh : Has L (sl E e A cap xs) R) (hz : E.sz = 1) (hk : k < xs.length) (hv : ∀ a, (E.f a)[0]? = some (v a))
    (h : ∀ a, xs[k]? = some a → RunM P w0 n m ops rest ((d, v a) :: K) L Q) : RunM P w0 n m ops (⟨some d, .load t x, ty, pos, af, none⟩ :: rest) K L Q :=
  m_load_elc (j := 0) hd (by simpa using hx) hh hz hk hv h
/-- Part of an element (a struct in a struct). -/
theorem m_load_elp {t s k j sz : Nat} {x : Operand} {v : α → List Value} [ht : TAgg P t s] (hd : Nat.ble (d + 1) n = true) (hx : ev K x = some (.pointer (some ⟨bk A, k * sz + j, none⟩))) (hh : Has L (sl E e A cap xs) R) (hz : E.sz = sz) (hk : k < xs.length) (hv : ∀ a, ((E.f a).drop j).take s = v a) (hl : ∀ a, (v a).length = s) (hjs : Nat.ble (j + s) sz = true)
    (h : ∀ a, xs[k]? = some a → RunM P w0 n m ops rest ((d, .agg (v a).toArray) :: K) L Q) : RunM P w0 n m ops (⟨some d, .load t x, ty, pos, af, none⟩ :: rest) K L Q := by
  subst hz
  refine runM_q hd (v := .agg (v xs[k]).toArray) (fun d ty pos af g a w f c => ?_) (h _ (List.getElem?_eq_getElem hk))
  obtain ⟨b, sp, rfl, hb, _⟩ := c.sl hh (by omega)
  have h1 := flat_seg (E := E) xs k _ sp (List.getElem?_eq_getElem hk)
  have h2 : ((xs.flatMap E.f ++ sp).drop (k * E.sz + j)).take s = v xs[k] := by
    have e1 := hv xs[k]
    have hjs' := Nat.le_of_ble_eq_true hjs
    rw [← e1, ← h1, List.drop_take, List.take_take, List.drop_drop]
    congr 1
    omega
  have := run_loadVar_agg (P := P) ht.ok hb h2 (hl _)
  simp [execOp, f.eval hx, Instr.loadAt, Instr.sureAddr, bk, this]
theorem all_flat (xs : List α) : (xs.flatMap E.f).all (·.oneCell') = true := by
  rw [List.all_flatMap, List.all_eq_true]
  exact fun a _ => E.one a
/-- A cell of an element is written. -/
theorem w_store_elc {t k j sz : Nat} {x y : Operand} {v : Value} {up : α → α} [ht : TCell P t] (hx : ev K x = some (.pointer (some ⟨bk A, k * sz + j, none⟩))) (hy : ev K y = some v) (hh : Has L (sl E e A cap xs) R) (hz : E.sz = sz) (hk : k < xs.length) (h1 : v.oneCell' = true) (hj : Nat.ble (j + 1) sz = true)
    (hu : ∀ a, E.f (up a) = (E.f a).set j v) (h : ∀ a, xs[k]? = some a → RunM P w0 n false ops rest K (sl E e A cap (xs.set k (up a)) :: R) Q) : RunM P w0 n false ops (⟨none, .store t x y, ty, pos, af, none⟩ :: rest) K L Q := by
  subst hz
  have hj' : j < E.sz := Nat.le_of_ble_eq_true hj
  have hka : xs[k]? = some xs[k] := List.getElem?_eq_getElem hk
  refine runM_w fun a w f c => ?_
  obtain ⟨b, sp, rfl, hb, hc1, hc2, hc3⟩ := c.sl hh (by omega)
  have hlt : k * E.sz + j + 1 ≤ (xs.flatMap E.f ++ sp).length := by
    have := flat_cell (E := E) xs k j _ sp ((E.f xs[k])[j]'(by rw [E.len]; exact hj')) hka (List.getElem?_eq_getElem _)
    exact (List.getElem?_eq_some_iff.1 this).1
  have hr := run_storeVar_in (P := P) (t := t) (off := k * E.sz + j) (cs := [v]) (v := v) (run_size_cell ht.ok) (by cases v <;> first | rfl | cases h1) rfl hb (by simp [h1]) hlt
  have hput : putL (xs.flatMap E.f ++ sp) (k * E.sz + j) [v] = (xs.set k (up xs[k])).flatMap E.f ++ sp := by
    rw [putL_cell _ _ E.sz j _ v (flat_seg (E := E) xs k _ sp hka) (E.len _) hj', ← hu, flat_set (E := E) xs k _ _ sp hka]
  rw [hput] at hr
  refine ⟨undef, _, .inr ⟨by simp [execOp, f.eval hx, f.eval hy, Instr.storeAt, Instr.sureAddr, bk, hr]; rfl, rfl⟩, K, _, f, ⟨c.env.set b _, ?_⟩, h _ hka⟩
  obtain ⟨h1', h2', ha, he, hA, hR⟩ := c.sat.has hh
  have hb1 : h1' b = some (.cells (xs.flatMap E.f ++ sp).toArray e (0, 0)) := by
    rcases hA with ⟨e0, _⟩ | ⟨g, sp', e1, e2, _⟩
    · cases e0
    · obtain rfl : b = g := by simpa using e1
      have h3 : (hp w) b = h1' b := by rw [he]; simp [join, e2]
      rw [← h3]; exact hb
  have hs : seps (pts b (.cells (xs.flatMap E.f ++ sp).toArray e (0, 0)) :: R) (hp w) := ⟨h1', h2', ha, he, hb1, hR⟩
  have hs2 := seps_upd (o' := .cells ((xs.set k (up xs[k])).flatMap E.f ++ sp).toArray e (0, 0)) hs
  rw [← hp_set hb] at hs2
  exact seps_head (fun h hb' => .inr ⟨b, sp, rfl, hb', by simpa using hc1, by simpa using hc2, hc3⟩) hs2
/-- An element is written. -/
theorem w_store_el {t s k sz : Nat} {x y : Operand} {cs : List Value} {a' : α} [ht : TAgg P t s] (hx : ev K x = some (.pointer (some ⟨bk A, k * sz, none⟩))) (hy : ev K y = some (.agg cs.toArray)) (hh : Has L (sl E e A cap xs) R) (hz : E.sz = sz) (hs : s = sz) (hk : k < xs.length)
    (hu : E.f a' = cs) (h : RunM P w0 n false ops rest K (sl E e A cap (xs.set k a') :: R) Q) : RunM P w0 n false ops (⟨none, .store t x y, ty, pos, af, none⟩ :: rest) K L Q := by
  subst hz hs hu
  have hka : xs[k]? = some xs[k] := List.getElem?_eq_getElem hk
  refine runM_w fun a w f c => ?_
  obtain ⟨b, sp, rfl, hb, hc1, hc2, hc3⟩ := c.sl hh (by omega)
  have hlt : k * E.sz + (E.f a').length ≤ (xs.flatMap E.f ++ sp).length := by
    rw [List.length_append, flat_len, E.len]
    have : (k + 1) * E.sz ≤ xs.length * E.sz := Nat.mul_le_mul_right _ hk
    rw [Nat.add_mul] at this
    omega
  have hr := run_storeVar_in (P := P) (t := t) (off := k * E.sz) (v := .agg (E.f a').toArray) (run_size_agg ht.ok) (by simp [Value.cells]) (E.len _) hb (E.one _) hlt
  rw [flat_set (E := E) xs k _ _ sp hka] at hr
  refine ⟨undef, _, .inr ⟨by simp [execOp, f.eval hx, f.eval hy, Instr.storeAt, Instr.sureAddr, bk, hr]; rfl, rfl⟩, K, _, f, ⟨c.env.set b _, ?_⟩, h⟩
  obtain ⟨h1', h2', ha, he, hA, hR⟩ := c.sat.has hh
  have hb1 : h1' b = some (.cells (xs.flatMap E.f ++ sp).toArray e (0, 0)) := by
    rcases hA with ⟨e0, _⟩ | ⟨g, sp', e1, e2, _⟩
    · cases e0
    · obtain rfl : b = g := by simpa using e1
      have h3 : (hp w) b = h1' b := by rw [he]; simp [join, e2]
      rw [← h3]; exact hb
  have hs : seps (pts b (.cells (xs.flatMap E.f ++ sp).toArray e (0, 0)) :: R) (hp w) := ⟨h1', h2', ha, he, hb1, hR⟩
  have hs2 := seps_upd (o' := .cells ((xs.set k a').flatMap E.f ++ sp).toArray e (0, 0)) hs
  rw [← hp_set hb] at hs2
  exact seps_head (fun h hb' => .inr ⟨b, sp, rfl, hb', by simpa using hc1, by simpa using hc2, hc3⟩) hs2

/-! ### append -/
/-- What is appended: cells that can be read in the state, at an address. -/
def Rd (L : List SP) (a : Addr) (cs : List Value) : Prop := ∀ w, Sat L w → ∀ j v, cs[j]? = some v → w.cell? (a.add j) = some v
theorem rd_cells {b : Nat} {e' : TypeId} {l : List Value} {M : List SP} (h : Has L (cells b e' l) M) : Rd L ⟨b, 0, none⟩ l := fun w s j v hj => by
  have hb := (s.has h).at
  rw [Addr.add_lit, cell_at hb]
  simpa using hj
theorem own_of_sl {w : World} (c : Cl w0 L w) (h : Has L (Sl.sl E e A cap xs) R) : w.ownsRow 0 e E.sz (.slice A xs.length cap) xs.length (xs.flatMap E.f) := by
  obtain ⟨h1, hA, hm⟩ := seps_hd (c.sat.has h)
  rcases hA with ⟨rfl, rfl, rfl⟩ | ⟨g, sp, rfl, e2, e3, e4, e5⟩
  · exact World.ownsRow_nil w 0 e E.sz
  · refine ⟨flat_len xs, .inr ⟨g, cap, (xs.flatMap E.f ++ sp).toArray, rfl, Nat.zero_le _, hm _ _ e2, e4, e5, ?_, ?_⟩⟩
    · show (xs.flatMap E.f ++ sp).toArray.size = _
      rw [List.size_toArray, List.length_append, flat_len, e3]
    · rw [← flat_len (E := E) xs]
      exact List.take_left
theorem hp_grown {w w' : World} {row : Option Nat} (hg : w.grownBy w' row) (b : Nat) (o : Obj) (hb : hp w b = some o) (hne : some b ≠ row) : hp w' b = some o := by
  have hlt : b < w.heap.size := (Array.getElem?_eq_some_iff.1 hb).1
  show w'.heap[b]? = some o
  rw [hg.block b hlt hne]; exact hb
theorem sl_of_own {β : Type} {w w' : World} {v' : Value} {ys : List α} (c : Cl w0 (Sl.sl E e A cap xs :: R) w) (ho : w'.ownsRow 0 e E.sz v' ys.length (ys.flatMap E.f)) (hg : w.grownBy w' (Value.ownBlock (.slice A xs.length cap)))
    (hl : v'.ownBlock = Value.ownBlock (.slice A xs.length cap) ∨ v'.ownBlock = some w.heap.size) : ∃ A' cap', v' = .slice A' ys.length cap' ∧ Cl w0 (Sl.sl E e A' cap' ys :: R) w' := by
  have henv : Env w0 w' := ⟨hg.os.trans c.env.os, hg.tape.trans c.env.tape, hg.output.trans c.env.output⟩
  obtain ⟨h1, h2, ha, he, hA, hR⟩ := c.sat
  -- what the rest holds lies elsewhere than the old row, and in old blocks
  have hold : ∀ b o, h2 b = some o → hp w b = some o := fun b o hb => by
    have : h1 b = none := by rcases ha b with e1 | e1; exact e1; rw [hb] at e1; cases e1
    rw [he]; simp [join, this, hb]
  have hne : ∀ b o, h2 b = some o → some b ≠ Value.ownBlock (.slice A xs.length cap) := fun b o hb hk => by
    rcases hA with ⟨rfl, _⟩ | ⟨g, sp, rfl, e2, _⟩
    · cases hk
    · obtain rfl : b = g := by simpa [Value.ownBlock] using hk
      rcases ha b with e1 | e1
      · rw [e2] at e1; cases e1
      · rw [hb] at e1; cases e1
  have hR' : ∀ b o, h2 b = some o → hp w' b = some o := fun b o hb => hp_grown hg b o (hold b o hb) (hne b o hb)
  rcases ho.2 with ⟨rfl, hn⟩ | ⟨g, cap', cur, rfl, _, hg', hnc, hcm, hcs, htake⟩
  · have : ys = [] := List.eq_nil_of_length_eq_zero hn
    subst this
    exact ⟨none, 0, rfl, henv, fun _ => none, hp w', fun _ => .inl rfl, by funext i; simp [join], sl_nil, seps_mono hR' hR⟩
  · refine ⟨some ⟨g, 0, none⟩, cap', rfl, henv, fun i => if i = g then hp w' g else none, fun i => if i = g then none else hp w' i, fun i => ?_, ?_, .inr ⟨g, cur.toList.drop (ys.length * E.sz), rfl, ?_, ?_, hnc, hcm⟩, seps_mono ?_ hR⟩
    · by_cases e : i = g <;> simp [e]
    · funext i
      by_cases e : i = g
      · subst e; simp [join]
      · simp [join, e]
    · show (if g = g then hp w' g else none) = _
      rw [if_pos rfl]
      show w'.heap[g]? = _
      rw [hg', ← htake, List.take_append_drop]
    · have : (cur.toList.drop (ys.length * E.sz)).length = cap' * E.sz - ys.length * E.sz := by simp [hcs]
      have h3 := Nat.mul_le_mul_right E.sz hnc
      omega
    · intro b o hb
      have : b ≠ g := by
        rintro rfl
        rcases hl with hl | hl
        · exact hne b o hb (by rw [← hl]; rfl)
        · have h3 := hold b o hb
          have h4 : b = w.heap.size := by simpa [Value.ownBlock] using hl
          have h5 : b < w.heap.size := (Array.getElem?_eq_some_iff.1 h3).1
          omega
      simp only [this, if_false]
      exact hR' b o hb
theorem run_append_none (w : World) {t ty sz by_ len : Nat} {c : Nat} {B : Option Addr} [ht : TSlice P t e sz by_] (hc : len ≤ cap) :
    (Builtin.append_ #[t, t] ty #[.slice A len cap, .slice B 0 c]).run P w = .ok (.slice A len cap) w := by
  have hk := ht.ok
  unfold tsliceB at hk
  split at hk
  · rename_i e' hu
    simp only [Bool.and_eq_true, beq_iff_eq] at hk
    obtain ⟨rfl, hk2⟩ := hk
    cases hi : P.info? e' with
    | none => simp [hi] at hk2
    | some inf =>
      cases A <;> cases B <;> simp [Builtin.append_, run_underlying hu, sizeOf, typeInfo, hi, Builtin.lenOf, hc, Builtin.firstCells, loadCells, loadCellsFrom, storeCells]
  · cases hk
/-- append(s, x..): what is appended is read somewhere. -/
theorem w_append {t sz by_ len m c : Nat} {x y : Operand} {B : Option Addr} {ys : List α} {z : List Value} [ht : TSlice P t e sz by_] [hzv : TZero P e z] (hd : Nat.ble (d + 1) n = true) (hx : ev K x = some (.slice A len cap)) (hy : ev K y = some (.slice B m c))
    (hh : Has L (sl E e A cap xs) R) (hrd : ∀ ad, B = some ad → Rd L ad (ys.flatMap E.f)) (hB : B = none → ys = []) (hz : E.sz = sz) (hzl : z.length = sz) (hl : len = xs.length) (hm : m = ys.length) (hb : (xs.length + ys.length) * by_ ≤ 140737488355328 ∧ xs.length + ys.length ≤ 140737488355328)
    (h : ∀ A' cap', RunM P w0 n false ops rest ((d, .slice A' (xs ++ ys).length cap') :: K) (sl E e A' cap' (xs ++ ys) :: R) Q) :
    RunM P w0 n false ops (⟨some d, .call ⟨.builtin .append, #[x, y], #[t, t]⟩, ty, pos, af, none⟩ :: rest) K L Q := by
  subst hz hl hm
  refine runM_w fun a w f cl => ?_
  have hown := own_of_sl cl hh
  by_cases hys : ys = []
  · subst hys
    have hc : xs.length ≤ cap := by
      obtain ⟨h1, hA, hm⟩ := seps_hd (cl.sat.has hh)
      rcases hA with ⟨rfl, rfl, rfl⟩ | ⟨g, sp, rfl, e2, e3, e4, e5⟩
      · simp
      · exact e4
    have hr := run_append_none (P := P) (A := A) (cap := cap) (B := B) (c := c) (t := t) (ty := ty) w hc
    have h2 := h A cap
    rw [List.append_nil] at h2
    exact ⟨_, w, .inl (by simp [execOp, resolve, invoke, builtin, f.eval hx, f.eval hy, hr]), _, _, f.put hd, ⟨cl.env, cl.sat.has hh⟩, h2⟩
  · cases B with
    | none => exact absurd (hB rfl) hys
    | some ad =>
      have hk := ht.ok
      unfold tsliceB at hk
      split at hk
      · rename_i e' hu
        simp only [Bool.and_eq_true, beq_iff_eq] at hk
        obtain ⟨rfl, hk2⟩ := hk
        cases hi : P.info? e' with
        | none => simp [hi] at hk2
        | some inf =>
          have hsz : inf.size = E.sz ∧ inf.bytes = by_ := by simpa [hi] using hk2
          have hz2 := hzv.ok
          cases hzz : inf.zero with
          | none => simp [hi, hzz] at hz2
          | some zv =>
            have hzs : zv.cells.size = E.sz := by
              have : zv.cells.toList = z := by simpa [hi, hzz] using hz2
              rw [← hzl, ← this]; simp
            obtain ⟨v', w', hr, ho', hgr, _, hloc⟩ := run_append_own_at (P := P) w 0 t ty e' inf zv E.sz by_ hu hi hzz hsz.1 hsz.2 hzs E.pos _ _ _ hown ad ys.length c (ys.flatMap E.f) (flat_len ys) (hrd ad rfl w cl.sat)
              (fun u hu' => List.all_eq_true.1 (all_flat (E := E) ys) u hu') (by unfold maxLen; omega) hb.1 (Nat.zero_le _)
            rw [← List.flatMap_append, ← List.length_append] at ho'
            obtain ⟨A', cap', rfl, hcl⟩ := sl_of_own (β := Unit) ⟨cl.env, cl.sat.has hh⟩ ho' hgr hloc
            exact ⟨_, w', .inl (by simp [execOp, resolve, invoke, builtin, f.eval hx, f.eval hy, hr]), _, _, f.put hd, hcl, h A' cap'⟩
      · cases hk
/-- A slice literal: a new row. -/
theorem w_buildSlice {t sz by_ len : Nat} {z : List Value} {xs : List (Nat × Operand)} {vs : List (Nat × Value)} {l : List Value} [ht : TSlice P t e sz by_] [hz : TZero P e z] (hd : Nat.ble (d + 1) n = true) (hx : evp K xs = some vs)
    (hb : Nat.ble (len * sz) 16777216 = true) (hb0 : Nat.beq (len * sz) 0 = false) (hl : fillL (fun i => some (i * sz, sz)) ((List.range (len * sz)).map fun i => z.toArray[i % z.toArray.size]!) vs = some l)
    (h : ∀ b, RunM P w0 n false ops rest ((d, .slice (some ⟨b, 0, none⟩) len len) :: K) (cells b e l :: L) Q) : RunM P w0 n false ops (⟨some d, .buildSlice t len xs.toArray, ty, pos, af, none⟩ :: rest) K L Q := by
  refine runM_w fun a w f c => ?_
  refine ⟨.slice (some ⟨w.heap.size, 0, none⟩) len len, w.alloc (.cells l.toArray e (0, 0)), .inl ?_, _, _, f.put hd, ⟨c.env.alloc _, c.sat.alloc _⟩, h w.heap.size⟩
  have hk := ht.ok
  unfold tsliceB at hk
  split at hk
  · rename_i e' hu
    simp only [Bool.and_eq_true, beq_iff_eq] at hk
    obtain ⟨rfl, hk2⟩ := hk
    cases hi : P.info? e' with
    | none => simp [hi] at hk2
    | some inf =>
      have hsz : inf.size = sz ∧ inf.bytes = by_ := by simpa [hi] using hk2
      obtain ⟨v, hr, hv⟩ := zero_run hz.ok w
      have h1 : (xs.toArray.map fun (i, x) => (i, a.eval x)) = vs.toArray := by rw [List.map_toArray, ← f.evps hx]
      have h2 := fill_is vs _ l hl
      have h3 : ¬ len * sz > 2 ^ 24 := by have := Nat.le_of_ble_eq_true hb; omega
      have h4 : ¬ len * sz = 0 := fun e => by rw [e] at hb0; cases hb0
      have hs : (sizeOf e').run P w = .ok sz w := by simp [sizeOf, typeInfo, hi, hsz.1]
      have h5 : ((Array.range (len * sz)).map fun x => v.cells[x % v.cells.size]!) = ((List.range (len * sz)).map fun i => z.toArray[i % z.toArray.size]!).toArray := by
        rw [hv, ← List.map_toArray]
        congr 1
        apply Array.ext'
        simp
      have h6 : (Instr.buildSlice t len vs.toArray).run P w = .ok (.slice (some ⟨w.heap.size, 0, none⟩) len len) (w.alloc (.cells l.toArray e' (0, 0))) := by
        unfold Instr.buildSlice
        rw [Sem.run_bind, run_underlying hu, Result.andThen_ok]
        dsimp only
        rw [Sem.run_bind, hs, Result.andThen_ok, if_neg h3]
        simp only [Sem.run_bind, Result.andThen_ok, if_neg h4, hr, Sem.run_pure, h5, h2, newRow, run_newObj]
        rfl
      simp only [execOp, h1, Sem.run_bind, h6, Result.andThen_ok, Sem.run_pure]
  · cases hk
/-- append(s, x): one element, laid in a row of its own just ahead. -/
theorem w_append1 {t sz by_ len : Nat} {x y : Operand} {b : Nat} {l : List Value} {z : List Value} {M : List SP} (a : α) [ht : TSlice P t e sz by_] [hzv : TZero P e z] (hd : Nat.ble (d + 1) n = true) (hx : ev K x = some (.slice A len cap)) (hy : ev K y = some (.slice (some ⟨b, 0, none⟩) 1 1))
    (hc : Has L (cells b e l) M) (hh : Has M (sl E e A cap xs) R) (ha : E.f a = l) (hz : E.sz = sz) (hzl : z.length = sz) (hl : len = xs.length) (hb : (xs.length + 1) * by_ ≤ 140737488355328 ∧ xs.length + 1 ≤ 140737488355328)
    (h : ∀ A' cap', RunM P w0 n false ops rest ((d, .slice A' (xs ++ [a]).length cap') :: K) (sl E e A' cap' (xs ++ [a]) :: R) Q) :
    RunM P w0 n false ops (⟨some d, .call ⟨.builtin .append, #[x, y], #[t, t]⟩, ty, pos, af, none⟩ :: rest) K L Q := by
  have hh2 : Has L (sl E e A cap xs) (cells b e l :: R) := ⟨fun h hs => seps_swap (seps_tail hh.to (hc.to h hs))⟩
  refine w_append (ys := [a]) (B := some ⟨b, 0, none⟩) hd hx hy hh2 ?_ (fun e => by cases e) hz hzl hl rfl (by simpa using hb) fun A' cap' => ?_
  · rintro ad hAd
    obtain rfl := Option.some.inj hAd
    have : [a].flatMap E.f = l := by simp [ha]
    rw [this]
    exact rd_cells hc
  · exact runM_L ⟨fun h hs => seps_drop (seps_swap hs)⟩ (h A' cap')
end
end Go.Sl
