/-
  What comes in: inputs that are read, opened into plain data; a law's contract as the row wants it. Program-independent. Conditions: none.
-/
import Derived.WalkKit
import Derived.ProofKit
import Derived.OpenShut
import Derived.ShutString
import Derived.ChangeOld
import Derived.Below
import Derived.SizedLaws
import Derived.Deep.Slices
import Derived.Test.YtajekiiabkaflaaSl13
set_option linter.unusedVariables false
set_option linter.unusedSimpArgs false
set_option linter.unusedSectionVars false
namespace Go.Sl
open Go.ChangeShapes Go.WideShapes Go.RowKit
theorem icell_of {w : World} {a : Addr} {v : Value} (h : w.cell? a = some v) : icell (hp w) a = some v := by
  unfold World.cell? at h
  unfold icell hp
  split at h
  · rename_i c e fr hb
    rw [hb]
    exact h
  · cases h
theorem cellsOf_cell {P : Program} {t : TypeId} [ht : TCell P t] : P.cellsOf t = 1 := by
  have h := ht.ok
  unfold tcellB at h
  split at h
  · cases h
  · cases h
  · cases h
  · cases hi : P.info? t with
    | none => simp [hi] at h
    | some i =>
      have : i.size = 1 := by simpa [hi] using h
      simp [Program.cellsOf, hi, this]
theorem cellsOf_agg {P : Program} {t : TypeId} {s : Nat} [ht : TAgg P t s] : P.cellsOf t = s := by
  have h := ht.ok
  have : (P.info? t).any (fun i => i.size == s) = true := by
    unfold taggB at h
    split at h <;> simp_all
  cases hi : P.info? t with
  | none => simp [hi] at this
  | some i =>
    have : i.size = s := by simpa [hi] using this
    simp [Program.cellsOf, hi, this]
class TFields (P : Program) (t : TypeId) (fl : outParam (List (Nat × TypeId))) : Prop where
  ok : (match P.underlying t with
    | some (.struct fs) => some (fs.toList.map fun f => (f.offset, f.type))
    | _ => none) = some fl
section
variable {H : Type} {enc : TypeId × Value → H} {P : Program} {w : World} {base : Nat} {sp : Nat → Bool} {held : Bool} {fuel : Nat} {cs : List Value} {x : DataW H × List MemPlace} {t : TypeId}
/-- It can be read. -/
def Rd? (H : Type) (enc : TypeId × Value → H) (P : Program) (w : World) (base : Nat) (sp : Nat → Bool) (held : Bool) (t : TypeId) (cs : List Value) : Prop := ∃ fuel x, DataW.trod enc P w base sp held fuel t cs = some x
theorem rd_int {k : IntKind} [hu : TUnd P t (.int k)] (h : Rd? H enc P w base sp held t cs) : ∃ n, cs = [.int k n] ∧ (Lit.int k n).wf = true := by
  obtain ⟨fuel, x, h⟩ := h
  cases fuel with
  | zero => simp [DataW.trod] at h
  | succ f =>
    unfold DataW.trod at h
    rw [hu.ok] at h
    split at h <;> simp_all
theorem rd_bool [hu : TUnd P t .bool] (h : Rd? H enc P w base sp held t cs) : ∃ b, cs = [.bool b] := by
  obtain ⟨fuel, x, h⟩ := h
  cases fuel with
  | zero => simp [DataW.trod] at h
  | succ f =>
    unfold DataW.trod at h
    rw [hu.ok] at h
    split at h <;> simp_all
theorem rd_str [hu : TUnd P t .string] (h : Rd? H enc P w base sp held t cs) : ∃ s, cs = [.string s] ∧ s.size ≤ maxLen := by
  obtain ⟨fuel, x, h⟩ := h
  cases fuel with
  | zero => simp [DataW.trod] at h
  | succ f =>
    unfold DataW.trod at h
    rw [hu.ok] at h
    split at h <;> simp_all
theorem rd_struct {fl : List (Nat × TypeId)} [hf : TFields P t fl] (h : Rd? H enc P w base sp held t cs) : cs.length = P.cellsOf t ∧ ∀ (i o : Nat) (ft : TypeId), fl[i]? = some (o, ft) → Rd? H enc P w base sp held ft ((cs.drop o).take (P.cellsOf ft)) := by
  obtain ⟨fuel, x, h⟩ := h
  have hk := hf.ok
  split at hk
  · rename_i fs hu
    have hk' := Option.some.inj hk
    obtain ⟨xs, n, _, _, hl, hlen, hh⟩ := DataW.trod_struct hu h
    refine ⟨hl, fun i o ft hi => ?_⟩
    rw [← hk', List.getElem?_map] at hi
    cases hfi : fs.toList[i]? with
    | none => rw [hfi] at hi; cases hi
    | some f =>
      rw [hfi] at hi
      simp only [Option.map_some, Option.some.injEq, Prod.mk.injEq] at hi
      obtain ⟨rfl, rfl⟩ := hi
      have h1 := hh i f (by simpa using hfi)
      have hi2 : i < xs.length := by
        have := (List.getElem?_eq_some_iff.1 hfi).1
        rw [hlen]; simpa using this
      exact ⟨n, xs[i], by rw [h1, List.getElem?_eq_getElem hi2]⟩
  · cases hk
theorem seg (cs : List Value) (o n : Nat) : cs.drop o = (cs.drop o).take n ++ cs.drop (o + n) := by rw [← List.drop_drop, List.take_append_drop]
/-- A slice that comes in, its elements by an encoding; G: what is known of an element. -/
theorem rd_slice {α : Type} {E : Enc α} {e sz by_ : Nat} {G : α → Prop} [ht : TSlice P t e sz by_] (hz : E.sz = sz) (hel : ∀ cs', Rd? H enc P w base sp held e cs' → ∃ a, cs' = E.f a ∧ G a) (h : Rd? H enc P w base sp held t cs) :
    ∃ A len cap xs, cs = [.slice A len cap] ∧ len = xs.length ∧ isl E (hp w) A xs ∧ len ≤ cap ∧ cap ≤ maxLen ∧ ∀ a ∈ xs, G a := by
  obtain ⟨fuel, x, h⟩ := h
  have hk := ht.ok
  unfold tsliceB at hk
  split at hk
  · rename_i e' hu
    simp only [Bool.and_eq_true, beq_iff_eq] at hk
    obtain ⟨rfl, hk2⟩ := hk
    have hsz : P.cellsOf e' = sz := by
      cases hi : P.info? e' with
      | none => simp [hi] at hk2
      | some inf =>
        have : inf.size = sz ∧ inf.bytes = by_ := by simpa [hi] using hk2
        simp [Program.cellsOf, hi, this.1]
    rcases Go.Deep.open_slice hu h with ⟨rfl, _⟩ | ⟨a, len, cap, m, n, D, Pl, rfl, _, hl, hm, hmm, _, hx⟩
    · exact ⟨none, 0, 0, [], rfl, rfl, fun k x hk => by simp at hk, Nat.le_refl _, Nat.zero_le _, fun a ha => by cases ha⟩
    · have hlm : len ≤ m := by rw [hmm]; split <;> omega
      have hex : ∀ i, i < len → ∃ q : α, w.cells? base (a.add (i * sz)) sz = some (E.f q) ∧ G q := fun i hi => by
        obtain ⟨cs', h1, h2⟩ := hx i (by omega)
        obtain ⟨q, rfl, hG⟩ := hel cs' ⟨n, _, h2⟩
        rw [hsz] at h1
        exact ⟨q, h1, hG⟩
      have hall : ∀ j, j ≤ len → ∃ xs : List α, xs.length = j ∧ ∀ (i : Nat) (q : α), xs[i]? = some q → w.cells? base (a.add (i * sz)) sz = some (E.f q) ∧ G q := by
        intro j
        induction j with
        | zero => exact fun _ => ⟨[], rfl, fun i q h => by simp at h⟩
        | succ j ih =>
          intro hj
          obtain ⟨xs, hxs, hp⟩ := ih (by omega)
          obtain ⟨q, hq, hG⟩ := hex j (by omega)
          refine ⟨xs ++ [q], by simp [hxs], fun i r hr => ?_⟩
          rcases Nat.lt_or_ge i xs.length with h1 | h1
          · rw [List.getElem?_append_left h1] at hr; exact hp i r hr
          · rw [List.getElem?_append_right h1] at hr
            have : i - xs.length = 0 := by
              have := (List.getElem?_eq_some_iff.1 hr).1
              simp at this; omega
            rw [this] at hr
            obtain rfl : q = r := by simpa using hr
            obtain rfl : i = j := by omega
            exact ⟨hq, hG⟩
      obtain ⟨xs, hxs, hp⟩ := hall len (Nat.le_refl _)
      refine ⟨some a, len, cap, xs, rfl, hxs.symm, fun k q hk => ⟨a, rfl, fun j v hj => ?_⟩, hl, hm, fun q hq => ?_⟩
      · have h1 := (hp k q hk).1
        have hjs : j < sz := by have := (List.getElem?_eq_some_iff.1 hj).1; rw [E.len, hz] at this; exact this
        have h2 := (World.cells?_some h1).2.2 j hjs
        rw [add_add, ← hz] at h2
        rw [hj] at h2
        exact icell_of h2
      · obtain ⟨i, hi, rfl⟩ := List.mem_iff_getElem.1 hq
        exact (hp i _ (List.getElem?_eq_getElem hi)).2
  · cases hk
end
/-- A law's contract, as the row wants it. -/
theorem calls_of_spec {P : Program} {f : FuncId} {args : List Value} {W : World} (h : Spec P f args [eqh (hp W)] fun v L => v = .bool true ∧ ∃ J, Hp.le (hp W) J ∧ L = [eqh J]) :
    Calls P f args.toArray W fun e W' => e = .returned (.bool true) ∧ Below W.heap.size W W' := by
  have hc : Cl W ([eqh (hp W)] ++ []) W := ⟨Env.refl W, ⟨hp W, fun _ => none, fun _ => .inr rfl, by funext i; simp [join], fun _ _ h => h, trivial⟩⟩
  refine (h.2 W [] W hc).mono ?_
  rintro e W' ⟨v, L', rfl, ⟨rfl, J, hJ, rfl⟩, hc'⟩
  have hb : ∀ k o, W.heap[k]? = some o → W'.heap[k]? = some o := fun k o hk => seps_eqh (L := []) hc'.sat (hJ k o hk)
  have hsz : W.heap.size ≤ W'.heap.size := by
    rcases Nat.eq_zero_or_pos W.heap.size with h0 | h0
    · omega
    · have h1 := hb (W.heap.size - 1) _ (Array.getElem?_eq_getElem (by omega))
      have := (Array.getElem?_eq_some_iff.1 h1).1
      omega
  refine ⟨rfl, hc'.env.os, hc'.env.tape, hc'.env.output, hsz, fun k hk => ?_⟩
  rw [hb k _ (Array.getElem?_eq_getElem hk), Array.getElem?_eq_getElem hk]
end Go.Sl
