/-
  Regions that draw their order, with effects: reads are taken first, what is written comes behind them. Program-independent. Conditions: none.
-/
import Derived.OrdersHeld
import Derived.StillTail
import Derived.Test.YtajekiiabkaflaaSl8
set_option linter.unusedVariables false
set_option linter.unusedSimpArgs false
set_option linter.unusedSectionVars false
namespace Go.Sl
attribute [local semireducible] Run Out RunM QOp

/-! ### 1. Orders -/
section
variable {P : Program} {ops : Array Oper} {Q : Exit → Act → World → Prop} {md : Region.Mode} {C : World → Prop} {ds : List Nat}
/-- Which of the first m operations wait for i. -/
def reachF (md : Region.Mode) (ops : Array Oper) (i : Nat) : Nat → Array Bool
  | 0 => #[]
  | m + 1 =>
    let r := reachF md ops i m
    r.push (match ops[m]? with
      | some o => o.after.any fun e => Region.binds md e && (e.on == i || r.getD e.on false)
      | none => false)
theorem reachF_size (i : Nat) : ∀ m, (reachF md ops i m).size = m
  | 0 => rfl
  | m + 1 => by simp [reachF, reachF_size i m]
theorem reachF_spec (i : Nat) : ∀ (m d : Nat), (reachF md ops i m).getD d false = true → ∃ o, ops[d]? = some o ∧ ∃ e ∈ o.after, Region.binds md e = true ∧ (e.on = i ∨ (e.on < d ∧ (reachF md ops i m).getD e.on false = true))
  | 0, d, h => by simp [reachF] at h
  | m + 1, d, h => by
    have hs := reachF_size (md := md) (ops := ops) i m
    have grow : ∀ k, (reachF md ops i m).getD k false = true → (reachF md ops i (m + 1)).getD k false = true := fun k hk => by
      have hlt : k < m := by
        rcases Nat.lt_or_ge k m with h1 | h1
        · exact h1
        · rw [Array.getD_eq_getD_getElem?, Array.getElem?_eq_none (by omega)] at hk; cases hk
      rw [Array.getD_eq_getD_getElem?] at hk ⊢
      simp only [reachF]
      rw [Array.getElem?_push_lt (by omega)]
      rw [Array.getElem?_eq_getElem (by omega)] at hk
      simpa using hk
    rcases Nat.lt_trichotomy d m with h1 | h1 | h1
    · have h2 : (reachF md ops i m).getD d false = true := by
        rw [Array.getD_eq_getD_getElem?] at h ⊢
        simp only [reachF] at h
        rw [Array.getElem?_push_lt (by omega)] at h
        rw [Array.getElem?_eq_getElem (by omega)]
        simpa using h
      obtain ⟨o, ho, e, he, hb, hc⟩ := reachF_spec i m d h2
      exact ⟨o, ho, e, he, hb, hc.imp id fun ⟨h3, h4⟩ => ⟨h3, grow _ h4⟩⟩
    · subst h1
      rw [Array.getD_eq_getD_getElem?] at h
      simp only [reachF] at h
      have he : (reachF md ops i d).size = d := hs
      have hp : ∀ x : Bool, ((reachF md ops i d).push x)[d]? = some x := fun x => by
        have := Array.getElem?_push_size (xs := reachF md ops i d) (x := x)
        rwa [he] at this
      rw [hp, Option.getD_some] at h
      cases ho : ops[d]? with
      | none => simp [ho] at h
      | some o =>
        simp only [ho] at h
        obtain ⟨e, hem, h1⟩ := Array.any_eq_true'.1 h
        simp only [Bool.and_eq_true, Bool.or_eq_true, beq_iff_eq] at h1
        refine ⟨o, rfl, e, hem, h1.1, h1.2.imp id fun h2 => ⟨?_, grow _ h2⟩⟩
        rcases Nat.lt_or_ge e.on d with h3 | h3
        · exact h3
        · rw [Array.getD_eq_getD_getElem?, Array.getElem?_eq_none (by omega)] at h2; cases h2
    · rw [Array.getD_eq_getD_getElem?, Array.getElem?_eq_none (by rw [reachF_size]; omega)] at h; cases h
def Closed (md : Region.Mode) (ops : Array Oper) (listed : Array Bool) : Prop :=
  ∀ j oj, ops[j]? = some oj → listed.getD j false = true → ∀ e ∈ oj.after, Region.binds md e = true → listed.getD e.on false = true
theorem Closed.set {listed : Array Bool} {i : Nat} (h : Closed md ops listed) (hi : i ∈ Region.ready md ops listed) : Closed md ops (listed.setIfInBounds i true) := by
  obtain ⟨_, oi, hoi, hall⟩ := mem_ready.1 hi
  intro j oj hj hl e he hb
  by_cases hij : i = j
  · subst hij
    obtain rfl : oj = oi := Option.some.inj (hj.symm.trans hoi)
    exact getD_set_true (hall e he hb)
  · rw [getD_set_ne false hij] at hl
    exact getD_set_true (h j oj hj hl e he hb)
theorem reach_listed {listed : Array Bool} {i m : Nat} (hc : Closed md ops listed) : ∀ (b d : Nat), d < b → (reachF md ops i m).getD d false = true → listed.getD d false = true → listed.getD i false = true
  | 0, _, h, _, _ => by omega
  | b + 1, d, hd, h, hl => by
    obtain ⟨o, ho, e, he, hb, h1⟩ := reachF_spec i m d h
    have hle := hc d o ho hl e he hb
    rcases h1 with h1 | ⟨h1, h2⟩
    · rw [← h1]; exact hle
    · exact reach_listed hc b e.on (by omega) h2 hle
theorem reach_unready {listed : Array Bool} {i d m : Nat} (hc : Closed md ops listed) (hr : (reachF md ops i m).getD d false = true) (hun : listed.getD i true = false) : d ∉ Region.ready md ops listed := by
  intro hd
  obtain ⟨_, o, ho, hall⟩ := mem_ready.1 hd
  obtain ⟨o', ho', e, he, hb, h1⟩ := reachF_spec i m d hr
  obtain rfl : o = o' := Option.some.inj (ho.symm.trans ho')
  have hle := hall e he hb
  have hi : listed.getD i false = true := by
    rcases h1 with h1 | ⟨h1, h2⟩
    · rw [← h1]; exact hle
    · exact reach_listed hc (e.on + 1) e.on (by omega) h2 hle
  rw [getD_both hun] at hi
  cases hi
/-- Whatever order is picked from here on; C holds behind every operation, those of ds apart. -/
def AnyD (P : Program) (md : Region.Mode) (ops : Array Oper) (Q : Exit → Act → World → Prop) (C : World → Prop) (ds : List Nat) : Nat → Array Bool → Act → World → Prop
  | 0, listed, a, w => Region.ready md ops listed = [] ∧ Q .normal a w
  | fuel + 1, listed, a, w =>
    (Region.ready md ops listed = [] → Q .normal a w) ∧
    ∀ i ∈ Region.ready md ops listed, wpOp P ops Q i (fun a' w' => (i ∉ ds → C w → C w') ∧ AnyD P md ops Q C ds fuel (listed.setIfInBounds i true) a' w') a w
theorem AnyD.any : ∀ (fuel : Nat) (listed : Array Bool) (a : Act) (w : World), AnyD P md ops Q C ds fuel listed a w → wpAny P md ops Q fuel listed a w
  | 0, _, _, _, h => h
  | fuel + 1, _, _, _, h => ⟨h.1, fun i hi => wpOp_mono (fun a' w' h' => AnyD.any fuel _ a' w' h'.2) (h.2 i hi)⟩
theorem AnyD.first {S : World → Prop} {i : Nat} {oi : Oper} {v : Value} (hi : ops[i]? = some oi) (hsel : ∀ (j : Nat) (o : Oper) cs b, ops[j]? = some o → o.op ≠ .select cs b)
    (hQ : ∀ c a w, Q (.panic c) (a.put oi.dst v) w → Q (.panic c) a w) :
    ∀ (fuel : Nat) (listed : Array Bool) (a : Act) (w : World),
      (∀ j oj, ops[j]? = some oj → j ≠ i → listed.getD j true = false → (∀ e ∈ oj.after, Region.binds md e = true → e.on ≠ i) → oi.apart ops oj = true) →
      Closed md ops listed → ((∀ w, S w) ∨ (S = C ∧ ∀ d ∈ ds, listed.getD d true = false → (reachF md ops i ops.size).getD d false = true)) →
      i ∈ Region.ready md ops listed → YieldsIf P ops S oi v a → S w →
      AnyD P md ops Q C ds fuel (listed.setIfInBounds i true) (a.put oi.dst v) w → AnyD P md ops Q C ds (fuel + 1) listed a w := by
  intro fuel
  induction fuel with
  | zero =>
    intro listed a w _ _ _ hr hy hS H
    refine ⟨fun h => (by rw [h] at hr; cases hr), fun j hj => ?_⟩
    by_cases hji : j = i
    · subst hji; exact hy.wpOp hi hS ⟨fun _ h => h, H⟩
    · have := ready_mono hj hji
      rw [H.1] at this
      cases this
  | succ fuel ih =>
    intro listed a w hfree hc hd hr hy hS H
    refine ⟨fun h => (by rw [h] at hr; cases hr), fun j hj => ?_⟩
    by_cases hji : j = i
    · subst hji; exact hy.wpOp hi hS ⟨fun _ h => h, H⟩
    · have h1 := H.2 j (ready_mono hj hji)
      obtain ⟨hjun, oj, hoj, hall⟩ := mem_ready.1 hj
      have hiun := (mem_ready.1 hr).1
      have hnot : ∀ e ∈ oj.after, Region.binds md e = true → e.on ≠ i := fun e he hb heq => by
        have h1 := hall e he hb
        rw [heq, getD_both hiun] at h1
        cases h1
      have hS' : ∀ w', (j ∉ ds → C w → C w') → S w' := fun w' hk => by
        rcases hd with hd | ⟨rfl, hd⟩
        · exact hd w'
        · exact hk (fun hm => reach_unready hc (hd j hm hjun) hiun hj) hS
      have h2 := wpOp_putIf hoj (hfree j oj hoj hji hjun hnot) (fun cs b => hsel i oi cs b hi) (fun cs b => hsel j oj cs b hoj) hQ hy h1
      have hfree' : ∀ k ok, ops[k]? = some ok → k ≠ i → (listed.setIfInBounds j true).getD k true = false →
          (∀ e ∈ ok.after, Region.binds md e = true → e.on ≠ i) → oi.apart ops ok = true := fun k ok hk hki hun hno => by
        refine hfree k ok hk hki ?_ hno
        by_cases hjk : j = k
        · subst hjk; exact hjun
        · rw [getD_set_ne true hjk] at hun; exact hun
      have hd' : (∀ w, S w) ∨ (S = C ∧ ∀ d ∈ ds, (listed.setIfInBounds j true).getD d true = false → (reachF md ops i ops.size).getD d false = true) := hd.imp id fun ⟨h0, hd⟩ => ⟨h0, fun d hm hun => by
        refine hd d hm ?_
        by_cases hjk : j = d
        · subst hjk; exact hjun
        · rw [getD_set_ne true hjk] at hun; exact hun⟩
      refine wpOp_mono (fun a' w' h3 => ⟨h3.2.1, ih (listed.setIfInBounds j true) a' w' hfree' (hc.set hj) hd' (ready_mono hr (Ne.symm hji)) h3.1 (hS' w' h3.2.1) ?_⟩) h2
      rw [Array.setIfInBounds_comm _ _ hji]
      exact h3.2.2
/-- The first k are listed. -/
def fst (N : Nat) : Nat → Array Bool
  | 0 => Array.replicate N false
  | k + 1 => (fst N k).setIfInBounds k true
def takeB (ops : Array Oper) (k : Nat) : Bool := (Region.ready .any ops (fst ops.size k)).contains k && Region.free .any ops (fst ops.size k) k
def lastB (ops : Array Oper) (ds : List Nat) (k : Nat) : Bool := let r := reachF .any ops k ops.size; ds.all fun d => (fst ops.size k).getD d true || r.getD d false
def onlyB (ops : Array Oper) (k : Nat) : Bool := decide (Region.ready .any ops (fst ops.size k) = [k])
/-- All from k on come up one behind another, and are of ds. -/
def tailB (ops : Array Oper) (ds : List Nat) (k : Nat) : Bool := Region.seqB .any ops (ops.size - k) k (fst ops.size k) && (List.range (ops.size - k)).all fun j => ds.contains (k + j)
theorem AnyD.of_seq : ∀ (l : List Oper) (k : Nat) (listed : Array Bool) (a : Act) (w : World), (∀ j, l[j]? = ops[k + j]?) → (∀ j, j < l.length → k + j ∈ ds) →
    Region.seqB md ops l.length k listed = true → wpList P ops Q l a w → AnyD P md ops Q C ds l.length listed a w
  | [], _, _, _, _, _, _, hB, h => ⟨by simpa [Region.seqB] using hB, h⟩
  | o :: l, k, listed, a, w, hl, hds, hB, h => by
    have h0 : ops[k]? = some o := by simpa using (hl 0).symm
    simp only [List.length_cons, Region.seqB, Bool.and_eq_true, decide_eq_true_eq] at hB
    refine ⟨fun h1 => (by rw [hB.1] at h1; cases h1), fun i hi => ?_⟩
    rw [hB.1] at hi
    obtain rfl : i = k := by simpa using hi
    have hw : wpOp P ops Q i (wpList P ops Q l) a w := by unfold wpOp; simp only [h0]; exact h
    exact wpOp_mono (fun a' w' h' => ⟨fun hn => absurd (hds 0 (by simp)) hn, AnyD.of_seq l (i + 1) _ a' w' (fun j => by have := hl (j + 1); simpa [Nat.add_assoc, Nat.add_comm 1 j] using this) (fun j hj => by have := hds (j + 1) (by simpa using hj); simpa [Nat.add_assoc, Nat.add_comm 1 j] using this) hB.2 h'⟩) hw
end

/-! ### 2. The judgment -/
/-- Q, and no panic. -/
def NoP (Q : Qt) : Qt := fun e a w => match e with
  | .panic _ => False
  | e => Q e a w
section
variable (P : Program) (w0 : World) (n : Nat)
/-- From operation k on, the first k being through. L0: what held at the region's head. -/
@[irreducible] def RunD (ops : Array Oper) (ds : List Nat) (L0 : List SP) (k : Nat) (l : List Oper) (K : Ks) (L : List SP) (Q : Qt) : Prop :=
  (∀ j, l[j]? = ops[k + j]?) → k ≤ ops.size → Region.noSelect ops = true → Closed .any ops (fst ops.size k) → ∀ a w, Fr n K a → Cl w0 L w → Cl w0 L0 w → AnyD P .any ops (NoP Q) (Cl w0 L0) ds l.length (fst ops.size k) a w
end
attribute [local semireducible] RunD
section
variable {P : Program} {w0 : World} {n : Nat} {K : Ks} {L L0 R : List SP} {Q : Qt} {ops : Array Oper} {rest : List Oper} {ty : TypeId} {pos : String} {af : Array Edge} {ds : List Nat} {k : Nat}
theorem NoP.imp {Q : Qt} : ∀ e a w, NoP Q e a w → Q e a w := fun e a w h => by cases e <;> first | exact h | exact (h : False).elim
theorem out_nop (h : Out w0 n .normal K L Q) : Out w0 n .normal K L (NoP Q) := h
theorem run_region_d {id : Nat} {l : List Oper} (ds : List Nat) (hm : P.follows .mixedOrders = true) (hB : Region.noSelect l.toArray = true) (h : RunD P w0 n l.toArray ds L 0 l K L Q) :
    Run P w0 n (.region id l.toArray true) K L Q := fun a w f c => by
  refine Code.wp_mono NoP.imp (wp_region_any hm ?_)
  have := h (by simp) (by simp) hB (fun j oj _ hl => by rw [show fst l.toArray.size 0 = Array.replicate _ false from rfl, getD_replicate_false] at hl; cases hl) a { w with drawn := w.drawn + 1 } f ⟨c.env.drew, c.sat⟩ ⟨c.env.drew, c.sat⟩
  exact AnyD.any _ _ _ _ this
theorem takeB_ready (h : takeB ops k = true) : k ∈ Region.ready .any ops (fst ops.size k) := by
  unfold takeB at h
  simp only [Bool.and_eq_true] at h
  simpa using h.1
theorem runD_yields {S : World → Prop} {o : Oper} {v : Value} (hS : (∀ w, S w) ∨ (S = Cl w0 L0 ∧ lastB ops ds k = true)) (ht : takeB ops k = true) (hy : ∀ a, Fr n K a → YieldsIf P ops S o v a)
    {K' : Ks} (hf : ∀ a, Fr n K a → Fr n K' (a.put o.dst v)) (h : RunD P w0 n ops ds L0 (k + 1) rest K' L Q) : RunD P w0 n ops ds L0 k (o :: rest) K L Q := fun hl hk hs hc a w f c c0 => by
  have h0 : ops[k]? = some o := by simpa using (hl 0).symm
  have hlt : k < ops.size := (Array.getElem?_eq_some_iff.1 h0).1
  have hr := takeB_ready ht
  have hfr : Region.free .any ops (fst ops.size k) k = true := by
    unfold takeB at ht
    simp only [Bool.and_eq_true] at ht
    exact ht.2
  have hSw : S w := by rcases hS with hS | ⟨rfl, _⟩; exact hS w; exact c0
  refine AnyD.first (S := S) h0 (Region.noSelect_spec hs) (fun _ _ _ h => h) rest.length _ a w (Region.free_spec h0 hfr) hc (hS.imp id fun ⟨e, hB⟩ => ⟨e, fun d hd hun => ?_⟩) hr (hy a f) hSw
    (h (fun j => by have := hl (j + 1); simpa [Nat.add_assoc, Nat.add_comm 1 j] using this) hlt hs (hc.set hr) _ w (hf a f) c c0)
  have h1 := List.all_eq_true.1 hB d hd
  rw [hun] at h1
  simpa using h1
/-- Whatever the world. -/
theorem runD_p {d : Nat} {op : Op} {v : Value} (hd : Nat.ble (d + 1) n = true) (hq : ∀ w1, QOp P w1 n op K [] v) (ht : takeB ops k = true) (h : RunD P w0 n ops ds L0 (k + 1) rest ((d, v) :: K) L Q) :
    RunD P w0 n ops ds L0 k (⟨some d, op, ty, pos, af, none⟩ :: rest) K L Q :=
  runD_yields (S := fun _ => True) (.inl fun _ => trivial) ht (fun a f => .inl ⟨rfl, fun w _ => hq w (some d) ty pos af none a w f ⟨⟨rfl, rfl, rfl⟩, trivial⟩⟩) (fun a f => f.put hd) h
/-- A read. -/
theorem runD_r {d : Nat} {op : Op} {v : Value} (hd : Nat.ble (d + 1) n = true) (hq : QOp P w0 n op K L0 v) (ht : takeB ops k = true) (hB : lastB ops ds k = true) (h : RunD P w0 n ops ds L0 (k + 1) rest ((d, v) :: K) L Q) :
    RunD P w0 n ops ds L0 k (⟨some d, op, ty, pos, af, none⟩ :: rest) K L Q :=
  runD_yields (S := Cl w0 L0) (.inr ⟨rfl, hB⟩) ht (fun a f => .inl ⟨rfl, fun w c => hq (some d) ty pos af none a w f c⟩) (fun a f => f.put hd) h
theorem runD_guard {d : Option Nat} {op : Op} {j : Nat} {b : Bool} (hy : yl ops K j = some b) {v : Value} {S : World → Prop} (hS : (∀ w, S w) ∨ (S = Cl w0 L0 ∧ lastB ops ds k = true)) (ht : takeB ops k = true) {K' : Ks}
    (hv : ∀ a w, Fr n K a → S w → (execOp a.eval ⟨d, op, ty, pos, af, some (j, b)⟩).run P w = .ok (.value v) w) (hf : ∀ a, Fr n K a → Fr n K' (a.put d v)) (h : RunD P w0 n ops ds L0 (k + 1) rest K' L Q) :
    RunD P w0 n ops ds L0 k (⟨d, op, ty, pos, af, some (j, b)⟩ :: rest) K L Q :=
  runD_yields (S := S) hS ht (fun a f => .inl ⟨by simp [Region.wanted, yl_yielded f hy], fun w c => hv a w f c⟩) hf h
/-- The rest comes up as it stands. -/
theorem runD_tail (hB : tailB ops ds k = true) (h : RunM P w0 n false ops rest K L (NoP Q)) : RunD P w0 n ops ds L0 k rest K L Q := fun hl hk hs hc a w f c c0 => by
  have hlen : rest.length = ops.size - k := by
    have h1 := hl rest.length
    rw [List.getElem?_eq_none (Nat.le_refl _)] at h1
    have h2 := Array.getElem?_eq_none_iff.1 h1.symm
    rcases Nat.eq_zero_or_pos rest.length with h3 | h3
    · omega
    · have h4 := hl (rest.length - 1)
      rw [List.getElem?_eq_getElem (by omega)] at h4
      have := (Array.getElem?_eq_some_iff.1 h4.symm).1
      omega
  simp only [tailB, Bool.and_eq_true] at hB
  refine AnyD.of_seq rest k _ a w hl (fun j hj => ?_) (by rw [hlen]; exact hB.1) (h a w f c)
  have := List.all_eq_true.1 hB.2 j (List.mem_range.2 (by omega))
  simpa using this
/-- One that comes up alone, and lays a new block. -/
theorem runD_w {d : Option Nat} {op : Op} (hB : onlyB ops k = true) (h : ∀ a w, Fr n K a → Cl w0 L w → ∃ v o, (execOp a.eval ⟨d, op, ty, pos, af, none⟩).run P w = .ok (.value v) (w.alloc o) ∧
      ∃ K' L', Fr n K' (a.put d v) ∧ Cl w0 L' (w.alloc o) ∧ RunD P w0 n ops ds L0 (k + 1) rest K' L' Q) :
    RunD P w0 n ops ds L0 k (⟨d, op, ty, pos, af, none⟩ :: rest) K L Q := fun hl hk hs hc a w f c c0 => by
  have h0 : ops[k]? = some ⟨d, op, ty, pos, af, none⟩ := by simpa using (hl 0).symm
  have hlt : k < ops.size := (Array.getElem?_eq_some_iff.1 h0).1
  have hr : Region.ready .any ops (fst ops.size k) = [k] := by simpa [onlyB] using hB
  have hc' := hc.set (i := k) (by rw [hr]; simp)
  refine ⟨fun h1 => (by rw [hr] at h1; cases h1), fun i hi => ?_⟩
  rw [hr] at hi
  obtain rfl : i = k := by simpa using hi
  obtain ⟨v, o, hx, K', L', f', c', hR⟩ := h a w f c
  have c0' : Cl w0 L0 (w.alloc o) := ⟨c0.env.alloc _, seps_drop (c0.sat.alloc o)⟩
  unfold wpOp
  simp only [h0]
  rw [if_pos (show Region.wanted _ _ = true from rfl)]
  refine .inl ?_
  unfold Oper.wp
  rw [hx]
  exact ⟨fun _ _ => c0', hR (fun j => by have := hl (j + 1); simpa [Nat.add_assoc, Nat.add_comm 1 j] using this) hlt hs hc' _ _ f' c' c0'⟩
end
end Go.Sl
