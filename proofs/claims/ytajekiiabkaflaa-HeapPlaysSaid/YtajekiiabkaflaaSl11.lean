/-
  A loop over a map: the iterator and what is left. Program-independent. Conditions: none.
-/
import Derived.Maps.RangeRun
import Derived.Test.YtajekiiabkaflaaSl10
set_option linter.unusedVariables false
set_option linter.unusedSimpArgs false
set_option linter.unusedSectionVars false
namespace Go.Sl
attribute [local semireducible] Run Out RunM QOp RunD

section
variable {κ υ : Type} [DecidableEq κ]
/-- A map of which a loop has the pairs of left still to come; cur: the one that came last. -/
structure MpI (kf : κ → Value) (vf : υ → Value) (b : Nat) (l : List (κ × υ)) (left : List (κ × υ)) (cur : Option (κ × υ)) (es : Array MapEntry) (clock since : Nat) (seen : Array Nat) (c0 : Nat) : Prop where
  all : es.toList.map (fun e => (e.key, e.val)) = l.map (fun p => (kf p.1, vf p.2))
  born : (es.toList.map (·.born)).Nodup
  old : ∀ e ∈ es.toList, e.born < clock
  keys : (l.map (·.1)).Nodup
  bef : ∀ e ∈ es.toList, e.born < since
  lst : since ≤ c0
  sc : since ≤ clock
  lft : (es.toList.filter fun e => !seen.contains e.born).map (fun e => (e.key, e.val)) = left.map (fun p => (kf p.1, vf p.2))
  now : ∀ p, cur = some p → c0 = clock ∧ ∃ (seen0 : Array Nat) (e : MapEntry), seen = seen0.push e.born ∧ e ∈ es.toList ∧ e.key = kf p.1 ∧ e.val = vf p.2
def mpi (kf : κ → Value) (vf : υ → Value) (b : Nat) (l : List (κ × υ)) (r : Nat) (left : List (κ × υ)) (cur : Option (κ × υ)) : SP := fun h =>
  ∃ es clock since seen c0, MpI kf vf b l left cur es clock since seen c0 ∧ seps [pts b (.map es clock), pts r (.mapIter (some b) since seen c0)] h
theorem filter_ne_erase {L : List MapEntry} : ∀ (i : Nat) (e : MapEntry), L[i]? = some e → (L.map (·.born)).Nodup → L.filter (fun x => !(x.born == e.born)) = L.eraseIdx i := by
  induction L with
  | nil => intro i e h; simp at h
  | cons a L ih =>
    intro i e h hn
    simp only [List.map_cons, List.nodup_cons] at hn
    cases i with
    | zero =>
      obtain rfl : a = e := by simpa using h
      simp only [List.filter_cons, beq_self_eq_true, Bool.not_true, Bool.false_eq_true, if_false, List.eraseIdx_cons_zero]
      refine List.filter_eq_self.2 fun x hx => ?_
      have : x.born ≠ a.born := fun e => hn.1 (e ▸ List.mem_map.2 ⟨x, hx, rfl⟩)
      simp [this]
    | succ i =>
      have h' : L[i]? = some e := by simpa using h
      have hm : e ∈ L := List.mem_of_getElem? h'
      have : a.born ≠ e.born := fun e1 => hn.1 (List.mem_map.2 ⟨e, hm, e1.symm⟩)
      simp only [List.filter_cons, List.eraseIdx_cons_succ]
      rw [if_pos (by simp [this]), ih i e h' hn.2]
variable {kf : κ → Value} {vf : υ → Value} {P : Program} {w0 : World} {n : Nat} {K : Ks} {L R : List SP} {Q : Qt} {m : Bool} {ops : Array Oper} {rest : List Oper} {ty : TypeId} {pos : String} {af : Array Edge} {d : Nat} {b : Nat} {l left : List (κ × υ)} {r : Nat} {cur : Option (κ × υ)}
theorem seps_pair {A B : SP} {h : Hp} : seps (seps [A, B] :: R) h ↔ seps (A :: B :: R) h := seps_flat (M := [A, B])
theorem Cl.mpi {w : World} (c : Cl w0 L w) (hh : Has L (Sl.mpi kf vf b l r left cur) R) : ∃ es clock since seen c0, MpI kf vf b l left cur es clock since seen c0 ∧ seps (pts r (.mapIter (some b) since seen c0) :: pts b (.map es clock) :: R) (hp w) ∧ w.heap[b]? = some (.map es clock) ∧ w.heap[r]? = some (.mapIter (some b) since seen c0) := by
  obtain ⟨h1, h2, a, e, ⟨es, clock, since, seen, c0, hI, hs⟩, hR⟩ := c.sat.has hh
  have h3 : seps (pts b (.map es clock) :: pts r (.mapIter (some b) since seen c0) :: R) (hp w) := seps_pair.1 ⟨h1, h2, a, e, hs, hR⟩
  have h4 := seps_swap h3
  refine ⟨es, clock, since, seen, c0, hI, h4, ?_, ?_⟩
  · obtain ⟨k, hk, hm⟩ := seps_hd h3; exact hm _ _ hk
  · obtain ⟨k, hk, hm⟩ := seps_hd h4; exact hm _ _ hk
theorem ent_mpi {M : List SP} (hh : Has L (Sl.mpi kf vf b l r left cur) R) (h : Ent (mp kf vf b l :: R) M) : Ent L M := ⟨fun h0 hs => by
  obtain ⟨h1, h2, a, e, ⟨es, clock, since, seen, c0, hI, hs⟩, hR⟩ := hh.to _ hs
  refine h.to _ ⟨h1, h2, a, e, ?_, hR⟩
  obtain ⟨k, hk, hm⟩ := seps_hd hs
  exact ⟨es, clock, hm _ _ hk, hI.all, hI.born, hI.old, hI.keys⟩⟩
/-- 'range m'. -/
theorem w_range {t kt e : TypeId} {x : Operand} (kf : κ → Value) (vf : υ → Value) [ht : TMap P t kt e] (hd : Nat.ble (d + 1) n = true) (hx : ev K x = some (.map (some b))) (hh : Has L (mp kf vf b l) R)
    (h : ∀ r, RunM P w0 n false ops rest ((d, .pointer (some ⟨r, 0, none⟩)) :: K) (Sl.mpi kf vf b l r l none :: R) Q) : RunM P w0 n false ops (⟨some d, .range t x, ty, pos, af, none⟩ :: rest) K L Q := by
  refine runM_w fun a w f c => ?_
  obtain ⟨h1, h2, ha, he, ⟨es, clock, hb, h3, h4, h5, h6⟩, hR⟩ := c.sat.has hh
  have hbw : w.heap[b]? = some (.map es clock) := by
    show hp w b = _
    rw [he]; simp [join, hb]
  have hr := run_range_map (P := P) w t kt e b es clock ht.ok hbw
  refine ⟨.pointer (some ⟨w.heap.size, 0, none⟩), w.alloc (.mapIter (some b) clock #[] clock), .inl (by simp [execOp, f.eval hx, hr]), _, _, f.put hd, ⟨c.env.alloc _, ?_⟩, h w.heap.size⟩
  have hs : seps (pts b (.map es clock) :: R) (hp w) := ⟨h1, h2, ha, he, hb, hR⟩
  have hs2 := Sat.alloc (L := pts b (.map es clock) :: R) (w := w) hs (.mapIter (some b) clock #[] clock)
  refine seps_head (A := seps [pts b (.map es clock), pts w.heap.size (.mapIter (some b) clock #[] clock)]) (fun k hk => ⟨es, clock, clock, #[], clock, ⟨h3, h4, h5, h6, h5, Nat.le_refl _, Nat.le_refl _, ?_, fun p e => by cases e⟩, hk⟩) (seps_pair.2 (seps_swap hs2))
  rw [← h3]
  congr 1
  exact List.filter_eq_self.2 fun x _ => by simp
/-- The step: nothing is left, or one of those that are left comes. -/
theorem w_next {x : Operand} (kf : κ → Value) (vf : υ → Value) (hd : Nat.ble (d + 1) n = true) (hx : ev K x = some (.pointer (some ⟨r, 0, none⟩))) (hh : Has L (Sl.mpi kf vf b l r left cur) R)
    (h0 : left = [] → RunM P w0 n false ops rest ((d, .tuple #[.bool false]) :: K) L Q)
    (h1 : ∀ i p, left[i]? = some p → RunM P w0 n false ops rest ((d, .tuple #[.bool true, kf p.1, vf p.2]) :: K) (Sl.mpi kf vf b l r (left.eraseIdx i) (some p) :: R) Q) :
    RunM P w0 n false ops (⟨some d, .next x false, ty, pos, af, none⟩ :: rest) K L Q := by
  refine runM_w fun a w f c => ?_
  obtain ⟨es, clock, since, seen, c0, hI, hs, hb, hr⟩ := c.mpi hh
  rcases run_next_at (P := P) w ty r b since c0 seen es clock hr hb hI.bef hI.lst with ⟨hz, hrun⟩ | ⟨e, he, w1, hw1, hrun⟩
  · refine ⟨.tuple #[.bool false], w, .inl (by simp [execOp, f.eval hx, hrun]), _, _, f.put hd, c, h0 ?_⟩
    have hl := hI.lft
    have : es.toList.filter (fun e => !seen.contains e.born) = [] := by
      have h1 : (leftOf es seen).toList = [] := by
        rw [Array.toList_eq_nil_iff]; exact Array.eq_empty_of_size_eq_zero hz
      simpa [leftOf] using h1
    rw [this] at hl
    simpa using hl.symm
  · have he' : e ∈ es.toList.filter (fun e => !seen.contains e.born) := by simpa [leftOf] using he
    obtain ⟨i, hi, hie⟩ := List.mem_iff_getElem.1 he'
    have hie' : (es.toList.filter (fun e => !seen.contains e.born))[i]? = some e := by rw [List.getElem?_eq_getElem hi, hie]
    have hlen := congrArg List.length hI.lft
    simp only [List.length_map] at hlen
    have hil : i < left.length := by omega
    have hpe : (e.key, e.val) = (kf left[i].1, vf left[i].2) := by
      have h2 := congrArg (fun l => l[i]?) hI.lft
      simp only [List.getElem?_map, hie', Option.map_some, List.getElem?_eq_getElem hil] at h2
      exact Option.some.inj h2
    have hem : e ∈ es.toList := (List.mem_filter.1 he').1
    have hrun' : (Instr.next (.pointer (some ⟨r, 0, none⟩)) false ty).run P w = .ok (.tuple #[.bool true, kf left[i].1, vf left[i].2]) (setObj' w1 r (.mapIter (some b) since (seen.push e.born) clock)) := by
      rw [hrun]
      have e1 : e.key = kf left[i].1 := congrArg Prod.fst hpe
      have e2 : e.val = vf left[i].2 := congrArg Prod.snd hpe
      rw [e1, e2]; rfl
    have henv1 : Env w0 w1 := by rcases hw1 with rfl | rfl; exact c.env; exact c.env.drew
    have hs1 : seps (pts r (.mapIter (some b) since seen c0) :: pts b (.map es clock) :: R) (hp w1) := by rcases hw1 with rfl | rfl; exact hs; exact hs
    have hr1 : w1.heap[r]? = some (.mapIter (some b) since seen c0) := by rcases hw1 with rfl | rfl <;> exact hr
    refine ⟨.tuple #[.bool true, kf left[i].1, vf left[i].2], setObj' w1 r (.mapIter (some b) since (seen.push e.born) clock), .inl (by simp [execOp, f.eval hx, hrun']), _, _, f.put hd, ⟨henv1.set r _, ?_⟩, h1 i left[i] (List.getElem?_eq_getElem hil)⟩
    have hs2 := seps_upd (o' := .mapIter (some b) since (seen.push e.born) clock) hs1
    rw [← hp_set hr1] at hs2
    refine seps_head (A := seps [pts b (.map es clock), pts r (.mapIter (some b) since (seen.push e.born) clock)]) (fun k hk => ⟨es, clock, since, seen.push e.born, clock, ⟨hI.all, hI.born, hI.old, hI.keys, hI.bef, hI.sc, hI.sc, ?_, ?_⟩, hk⟩) (seps_pair.2 (seps_swap hs2))
    · have hf : es.toList.filter (fun x => !(seen.push e.born).contains x.born) = (es.toList.filter (fun x => !seen.contains x.born)).eraseIdx i := by
        rw [← filter_ne_erase i e hie' (List.Nodup.sublist (List.Sublist.map _ List.filter_sublist) hI.born), List.filter_filter]
        congr 1
        funext x
        simp only [Array.contains_push]
        cases seen.contains x.born <;> simp [eq_comm, Bool.beq_comm] <;> exact Bool.beq_comm ..
      rw [hf, map_eraseIdx', hI.lft, map_eraseIdx']
    · rintro p hp'
      obtain rfl := Option.some.inj hp'
      exact ⟨rfl, seen, e, rfl, hem, congrArg Prod.fst hpe, congrArg Prod.snd hpe⟩
/-- The key and the value that came last. -/
theorem q_entry {x : Operand} {p : κ × υ} (kf : κ → Value) (vf : υ → Value) (hx : ev K x = some (.pointer (some ⟨r, 0, none⟩))) (hh : Has L (Sl.mpi kf vf b l r left (some p)) R) : QOp P w0 n (.entry x) K L (.tuple #[kf p.1, vf p.2]) := fun d ty pos af g a w f c => by
  obtain ⟨es, clock, since, seen, c0, hI, hs, hb, hr⟩ := c.mpi hh
  obtain ⟨rfl, seen0, e, rfl, hem, e1, e2⟩ := hI.now p rfl
  have := run_entry_at (P := P) w r b since seen0 es c0 e hr hb hem hI.born
  rw [e1, e2] at this
  simp [execOp, f.eval hx, this]
/-- A loop over no map. -/
def nit (r : Nat) : SP := pts r (.mapIter none 0 #[] 0)
theorem w_range_nil {t kt e : TypeId} {x : Operand} [ht : TMap P t kt e] (hd : Nat.ble (d + 1) n = true) (hx : ev K x = some (.map none))
    (h : ∀ r, RunM P w0 n false ops rest ((d, .pointer (some ⟨r, 0, none⟩)) :: K) (nit r :: L) Q) : RunM P w0 n false ops (⟨some d, .range t x, ty, pos, af, none⟩ :: rest) K L Q := by
  refine runM_w fun a w f c => ?_
  have hr := run_range_nilMap (P := P) w t kt e ht.ok
  exact ⟨.pointer (some ⟨w.heap.size, 0, none⟩), w.alloc (.mapIter none 0 #[] 0), .inl (by simp [execOp, f.eval hx, hr]), _, _, f.put hd, ⟨c.env.alloc _, c.sat.alloc _⟩, h w.heap.size⟩
theorem q_next_nil {x : Operand} (hx : ev K x = some (.pointer (some ⟨r, 0, none⟩))) (hh : Has L (nit r) R) : QOp P w0 n (.next x false) K L (.tuple #[.bool false]) := fun d ty pos af g a w f c => by
  obtain ⟨h1, hA, hm⟩ := seps_hd (c.sat.has hh)
  have hr : w.heap[r]? = some (.mapIter none 0 #[] 0) := hm _ _ hA
  have : (Instr.next (.pointer (some ⟨r, 0, none⟩)) false ty).run P w = .ok (.tuple #[.bool false]) w := by
    simp only [Instr.next, getObj, Sem.run_bind, Sem.run, hr, Result.andThen]
    rfl
  simp [execOp, f.eval hx, this]
end
end Go.Sl
