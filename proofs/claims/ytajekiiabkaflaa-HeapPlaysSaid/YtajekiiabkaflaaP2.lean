/- The plain law of the heaps: both heaps beside one another, op by op. Conditions: none. -/
import Derived.Test.YtajekiiabkaflaaP1
set_option linter.unusedVariables false
set_option linter.unusedSimpArgs false
namespace Go.Sl
open Go.Proofs
theorem All2.at_ {α β : Type} {r : α → β → Prop} {l : List α} {l' : List β} (h : All2 r l l') {i : Nat} (hi : i < l.length) (d : α) (d' : β) : r (l.getD i d) (l'.getD i d') := by
  induction h generalizing i with
  | nil => simp at hi
  | cons h1 _ ih =>
    cases i with
    | zero => exact h1
    | succ i => exact ih (by simpa using hi)
theorem All2.set_ {α β : Type} {r : α → β → Prop} {l : List α} {l' : List β} (h : All2 r l l') {a : α} {b : β} (hab : r a b) : ∀ i, All2 r (l.set i a) (l'.set i b) := by
  induction h with
  | nil => intro i; exact .nil
  | cons h1 h2 ih =>
    intro i
    cases i with
    | zero => exact .cons hab h2
    | succ i => exact .cons h1 (ih i)
theorem All2.sub_ {α β : Type} {r : α → β → Prop} {q : α → α → Prop} (hs : ∀ a a' b, q a' a → r a b → r a' b) : ∀ {l0 l : List α} {l' : List β}, All2 q l0 l → All2 r l l' → All2 r l0 l'
  | _, _, _, .nil, .nil => .nil
  | _, _, _, .cons h1 h2, .cons h3 h4 => .cons (hs _ _ _ h1 h3) (All2.sub_ hs h2 h4)
def tsum : List Tab → Nat
  | [] => 0
  | T :: l => T.length + tsum l
theorem tsum_app (T : Tab) : ∀ l : List Tab, tsum (l ++ [T]) = tsum l + T.length
  | [] => by simp [tsum]
  | a :: l => by simp only [List.cons_append, tsum, tsum_app T l]; omega
theorem tsum_set (A : Tab) : ∀ (l : List Tab) (j : Nat), j < l.length → tsum (l.set j A) + (l.getD j []).length = tsum l + A.length
  | [], j, h => by simp at h
  | a :: l, 0, _ => by simp [tsum]; omega
  | a :: l, j + 1, h => by
    have := tsum_set A l j (by simpa using h)
    simp only [List.set_cons_succ, tsum, List.getD_cons_succ]
    omega
/-- The program's heap beside the reference's, i ops being done. -/
structure Rel (i : Nat) (m r : HM) : Prop where
  room : m.room = r.room
  used : m.used = r.used
  fns : m.fns = r.fns
  cells : m.cells = r.cells
  tabs : All2 TRel m.tabs r.tabs
  uok : 0 ≤ m.used ∧ m.used ≤ m.room ∧ m.room ≤ 1000000
  cnt : m.used = (m.tabs.length + m.fns.length + tsum m.tabs : Nat)
  b1 : m.tabs.length ≤ i
  b2 : m.fns.length ≤ i
  b3 : m.cells.length ≤ i
  b4 : ∀ k, (r.tabs.getD k []).length ≤ i
theorem Rel.ok {i : Nat} {m r : HM} (h : Rel i m r) (hi : i ≤ 1000000) : m.ok := ⟨h.uok, by have := h.b1; omega, by have := h.b2; omega⟩
theorem Rel.okr {i : Nat} {m r : HM} (h : Rel i m r) (hi : i ≤ 1000000) : r.ok := ⟨by rw [← h.used, ← h.room]; exact h.uok, by have := h.b1; rw [← h.tabs.len]; omega, by rw [← h.fns]; have := h.b2; omega⟩
theorem Rel.mono {i j : Nat} {m r : HM} (h : Rel i m r) (hij : i ≤ j) : Rel j m r := ⟨h.room, h.used, h.fns, h.cells, h.tabs, h.uok, h.cnt, Nat.le_trans h.b1 hij, Nat.le_trans h.b2 hij, Nat.le_trans h.b3 hij, fun k => Nat.le_trans (h.b4 k) hij⟩
theorem Rel.new (room : Int) (h : 0 ≤ room ∧ room ≤ 1000000) : Rel 0 ⟨room, 0, [], [], []⟩ ⟨room, 0, [], [], []⟩ := ⟨rfl, rfl, rfl, rfl, .nil, by simp; omega, by simp [tsum], by simp, by simp, by simp, by simp⟩
theorem getD_app {α : Type} (l : List α) (a d : α) (k : Nat) : (l ++ [a]).getD k d = l.getD k d ∨ (l ++ [a]).getD k d = a := by
  rcases Nat.lt_trichotomy k l.length with h | h | h
  · left; simp [List.getD, List.getElem?_append_left h]
  · right; subst h; simp [List.getD]
  · left; simp [List.getD, List.getElem?_eq_none (show (l ++ [a]).length ≤ k by simp; omega), List.getElem?_eq_none (show l.length ≤ k by omega)]
theorem getD_set' {α : Type} (l : List α) (j : Nat) (a d : α) (k : Nat) : (l.set j a).getD k d = l.getD k d ∨ (l.set j a).getD k d = a := by
  by_cases e : j = k
  · subst e
    by_cases h : j < l.length
    · right; simp [List.getD, h]
    · left; simp [List.getD, h]
  · left; simp [List.getD, List.getElem?_set, e]
theorem Rel.tix {i : Nat} {m r : HM} (h : Rel i m r) (t : V) : tix m.tabs.length t = tix r.tabs.length t := by rw [h.tabs.len]
theorem Rel.table {i : Nat} {m r : HM} (h : Rel i m r) : m.table.1 = r.table.1 ∧ Rel (i + 1) m.table.2 r.table.2 := by
  unfold HM.table
  rw [← h.used, ← h.room]
  by_cases e : m.used = m.room
  · rw [if_pos e, if_pos e]; exact ⟨rfl, h.mono (by omega)⟩
  · rw [if_neg e, if_neg e]
    refine ⟨by rw [h.tabs.len], ⟨by rw [h.room], rfl, h.fns, h.cells, h.tabs.snoc ⟨.refl _, .nil, by simp⟩, ?_, ?_, ?_, ?_, ?_, ?_⟩⟩
    · have := h.uok; simp only []; omega
    · have := h.cnt; simp only [tsum_app, List.length_append, List.length_cons, List.length_nil]; omega
    · have := h.b1; simp only [List.length_append, List.length_cons, List.length_nil]; omega
    · have := h.b2; simp only []; omega
    · have := h.b3; simp only []; omega
    · intro k
      rcases getD_app r.tabs [] [] k with e1 | e1
      · simp only [e1]; have := h.b4 k; omega
      · simp only [e1]; simp
theorem Rel.fn {i : Nat} {m r : HM} (h : Rel i m r) (x : Clo) : (m.fn x).1 = (r.fn x).1 ∧ Rel (i + 1) (m.fn x).2 (r.fn x).2 := by
  unfold HM.fn
  rw [← h.used, ← h.room]
  by_cases e : m.used = m.room
  · rw [if_pos e, if_pos e]; exact ⟨rfl, h.mono (by omega)⟩
  · rw [if_neg e, if_neg e]
    refine ⟨by rw [h.fns], ⟨by rw [h.room], rfl, by rw [h.fns], h.cells, h.tabs, ?_, ?_, ?_, ?_, ?_, ?_⟩⟩
    · have := h.uok; simp only []; omega
    · have := h.cnt; simp only [List.length_append, List.length_cons, List.length_nil]; omega
    · have := h.b1; simp only []; omega
    · have := h.b2; simp only [List.length_append, List.length_cons, List.length_nil]; omega
    · have := h.b3; simp only []; omega
    · intro k; have := h.b4 k; simp only []; omega
theorem Rel.cell {i : Nat} {m r : HM} (h : Rel i m r) (v : V) : Rel (i + 1) { m with cells := m.cells ++ [v] } { r with cells := r.cells ++ [v] } := by
  refine ⟨h.room, h.used, h.fns, by rw [h.cells], h.tabs, h.uok, h.cnt, ?_, ?_, ?_, ?_⟩
  · have := h.b1; simp only []; omega
  · have := h.b2; simp only []; omega
  · have := h.b3; simp only [List.length_append, List.length_cons, List.length_nil]; omega
  · intro k; have := h.b4 k; simp only []; omega
theorem Rel.setc {i : Nat} {m r : HM} (h : Rel i m r) (j : Int) (v : V) : (m.setc j v).1 = (r.setc j v).1 ∧ Rel (i + 1) (m.setc j v).2 (r.setc j v).2 := by
  unfold HM.setc
  rw [← h.cells]
  cases cix m.cells.length j with
  | none => exact ⟨rfl, h.mono (by omega)⟩
  | some k =>
    refine ⟨rfl, ⟨h.room, h.used, h.fns, rfl, h.tabs, h.uok, h.cnt, ?_, ?_, ?_, ?_⟩⟩
    · have := h.b1; simp only []; omega
    · have := h.b2; simp only []; omega
    · have := h.b3; simp only [List.length_set]; omega
    · intro k; have := h.b4 k; simp only []; omega
theorem Rel.len {i : Nat} {m r : HM} (h : Rel i m r) (t : V) : m.len t = r.len t := by
  unfold HM.len
  rw [← h.tix t]
  cases e : Sl.tix m.tabs.length t with
  | none => rfl
  | some k => simp only [(h.tabs.at_ (tix_lt e) [] []).len]
theorem Rel.tab {i : Nat} {m r : HM} (h : Rel i m r) (t : V) : TRel (m.tab t) (r.tab t) ∧ (r.tab t).length ≤ i := by
  unfold HM.tab
  rw [← h.tix t]
  cases e : Sl.tix m.tabs.length t with
  | none => exact ⟨⟨.refl _, .nil, by simp⟩, by simp⟩
  | some k => exact ⟨h.tabs.at_ (tix_lt e) [] [], h.b4 k⟩
theorem Rel.get {i : Nat} {m r : HM} (h : Rel i m r) (t k : V) : m.get t k = r.get t k := by
  unfold HM.get
  rw [← h.tix t]
  cases e : Sl.tix m.tabs.length t with
  | none => rfl
  | some j => simp only [aget_perm (h.tabs.at_ (tix_lt e) [] []) k]
theorem Rel.keys {i : Nat} {m r : HM} (h : Rel i m r) (t : V) {p : List V} (hp : List.Perm p ((m.tab t).map (·.1))) : p.foldl ins [] = (r.tab t).map (·.1) := by
  have ht := (h.tab t).1
  exact keys_told ht.keyr ht.srt (hp.trans (ht.perm.map _))
theorem Rel.put {i : Nat} {m r : HM} (h : Rel i m r) (t k v : V) (hk : keyB k = true → isB k = true) : (m.put t k v).1 = (r.rput t k v).1 ∧ Rel (i + 1) (m.put t k v).2 (r.rput t k v).2 := by
  unfold HM.put HM.rput
  rw [← h.tix t]
  cases e : Sl.tix m.tabs.length t with
  | none => exact ⟨rfl, h.mono (by omega)⟩
  | some j =>
    simp only []
    have hT := h.tabs.at_ (tix_lt e) [] []
    have hlj := h.b4 j
    generalize hT1 : m.tabs.getD j [] = T at hT ⊢
    generalize hT2 : r.tabs.getD j [] = T' at hT hlj ⊢
    cases hkb : keyB k with
    | false => exact ⟨rfl, h.mono (by omega)⟩
    | true =>
      have hRK : RK k := ⟨hkb, hk hkb⟩
      have hag := aget_perm hT k
      have hu := h.uok
      have hn := hT.nodup'
      have hur := h.used
      have hrr := h.room
      simp only [if_true]
      rw [met_iff, ← hag]
      have bound : ∀ (u : Int) (A B : Tab), TRel A B → B.length ≤ i + 1 → u = r.used + (B.length : Int) - (T'.length : Int) → u ≤ m.room → Rel (i + 1) { m with used := u, tabs := m.tabs.set j A } { r with used := r.used + (B.length : Int) - (T'.length : Int), tabs := r.tabs.set j B } := by
        intro u A B hAB hB hu1 hu2
        have hts := tsum_set A m.tabs j (tix_lt e)
        rw [hT1] at hts
        have hcn := h.cnt
        have hl1 := hT.len
        have hl2 := hAB.len
        refine ⟨h.room, hu1, h.fns, h.cells, h.tabs.set_ hAB j, ?_, ?_, ?_, ?_, ?_, ?_⟩
        · simp only []; omega
        · simp only [List.length_set]; omega
        · have := h.b1; simp only [List.length_set]; omega
        · have := h.b2; simp only []; omega
        · have := h.b3; simp only []; omega
        · intro q
          rcases getD_set' r.tabs j B [] q with e1 | e1
          · simp only [e1]; have := h.b4 q; omega
          · simp only [e1]; exact hB
      have same : r = { r with used := r.used + (T'.length : Int) - (T'.length : Int), tabs := r.tabs.set j T' } := by
        have e1 : r.tabs.set j T' = r.tabs := by
          rw [← hT2]
          apply List.ext_getElem?
          intro q
          rw [List.getElem?_set]
          have hj : j < r.tabs.length := by rw [← h.tabs.len]; exact tix_lt e
          by_cases e2 : j = q
          · subst e2; simp [hj]
          · simp [e2]
        rw [e1, show r.used + (T'.length : Int) - (T'.length : Int) = r.used by omega]
      have same' : m = { m with used := m.used, tabs := m.tabs.set j T } := by
        have e1 : m.tabs.set j T = m.tabs := by
          rw [← hT1]
          apply List.ext_getElem?
          intro q
          rw [List.getElem?_set]
          have hj : j < m.tabs.length := tix_lt e
          by_cases e2 : j = q
          · subst e2; simp [hj]
          · simp [e2]
        rw [e1]
      cases hg : aget T k with
      | some u =>
        have hg' : aget T' k = some u := by rw [← hag]; exact hg
        have hnl := ne_len hn hg'
        simp only [Option.isSome_some, Bool.true_eq_false, false_and, and_false, if_false]
        have hpos : 1 ≤ T.length := by rw [hT.len]; omega
        by_cases hv : v.k = 0
        · rw [if_pos hv]
          refine ⟨rfl, ?_⟩
          rw [putL2_nil hv]
          exact bound (m.used - 1) _ _ (hT.del k) (by omega) (by omega) (by omega)
        · rw [if_neg hv]
          refine ⟨rfl, ?_⟩
          have hpl := put_len (v := v) hRK hT.right hn hv
          rw [hg'] at hpl
          simp only [Option.isSome_some, if_true, Nat.add_zero] at hpl
          have := bound m.used _ _ (hT.put hRK hv) (by omega) (by omega) (by omega)
          exact this
      | none =>
        have hg' : aget T' k = none := by rw [← hag]; exact hg
        simp only [Option.isSome_none, true_and]
        by_cases hv : v.k = 0
        · rw [if_pos hv, if_neg (by simp [hv])]
          refine ⟨rfl, ?_⟩
          rw [putL2_nil hv, ne_none hg']
          rw [← same]
          exact h.mono (by omega)
        · rw [if_neg hv]
          have hpl := put_len (v := v) hRK hT.right hn hv
          rw [hg'] at hpl
          simp only [Option.isSome_none, Bool.false_eq_true, if_false] at hpl
          by_cases hf : m.used = m.room
          · rw [if_pos hf, if_pos ⟨hv, by omega⟩]
            exact ⟨rfl, h.mono (by omega)⟩
          · rw [if_neg hf, if_neg (fun h9 => by have := h9.2; omega)]
            refine ⟨rfl, ?_⟩
            exact bound (m.used + 1) _ _ (hT.put hRK hv) (by omega) (by omega) (by omega)
end Go.Sl
