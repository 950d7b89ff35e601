/-
  HeapPlays: for every room and every script the law returns true, and the script reads as it did.
  Conditions: none.
-/
import Derived.Test.YtajekiiabkaflaaRows
import Derived.Test.YtajekiiabkaflaaL5
import Derived.Test.YtajekiiabkaflaaSl14
namespace Go.Proofs.Ytajekiiabkaflaa.heapPlays
open Go.ChangeShapes Go.WideShapes Go.ChangeAt Go.RowKit Go.Sl
set_option linter.unusedVariables false
theorem own : ownKnob Try.prog.godebug = none := by kernel_rfl
theorem laidOut : laidOutB Try.prog = true := by kernel_rfl
instance : TFields Try.prog 32 [(0, 3), (1, 2), (2, 9)] := ⟨by kernel_rfl⟩
instance : TFields Try.prog 35 [(0, 3), (1, 3), (2, 33)] := ⟨by kernel_rfl⟩
instance : TFields Try.prog 37 [(0, 3), (1, 32), (4, 32), (7, 32), (10, 35), (13, 3)] := ⟨by kernel_rfl⟩
section
variable {H : Type} {enc : TypeId × Value → H} {w : World} {base : Nat} {sp : Nat → Bool} {held : Bool} {cs : List Value}
theorem rd_V (h : Rd? H enc Try.prog w base sp held 32 cs) : ∃ v : V, cs = v.f := by
  obtain ⟨hl, hf⟩ := rd_struct h
  rw [cellsOf_agg (s := 3)] at hl
  have h0 := hf 0 _ _ rfl
  have h1 := hf 1 _ _ rfl
  have h2 := hf 2 _ _ rfl
  rw [cellsOf_cell] at h0 h1 h2
  obtain ⟨k, e0, _⟩ := rd_int h0
  obtain ⟨n, e1, _⟩ := rd_int h1
  obtain ⟨s, e2, _⟩ := rd_str h2
  refine ⟨⟨k, n, s⟩, ?_⟩
  have e : cs = cs.drop 0 := rfl
  rw [e, seg cs 0 1, seg cs (0 + 1) 1, seg cs (0 + 1 + 1) 1, List.drop_eq_nil_of_le (show cs.length ≤ 0 + 1 + 1 + 1 by omega), e0, e1, e2]
  rfl
theorem rd_C (h : Rd? H enc Try.prog w base sp held 35 cs) : ∃ c : CM, cs = EC.f c ∧ ∃ xs : List Int, c.len = xs.length ∧ isl EI (hp w) c.A xs := by
  obtain ⟨hl, hf⟩ := rd_struct h
  rw [cellsOf_agg (s := 3)] at hl
  have h0 := hf 0 _ _ rfl
  have h1 := hf 1 _ _ rfl
  have h2 := hf 2 _ _ rfl
  rw [cellsOf_cell] at h0 h1 h2
  obtain ⟨u, e0, _⟩ := rd_int h0
  obtain ⟨p, e1, _⟩ := rd_int h1
  obtain ⟨A, len, cap, xs, e2, hlen, hI, _⟩ := rd_slice (E := EI) (G := fun _ => True) rfl (fun cs' h => by
    obtain ⟨n, rfl, _⟩ := rd_int h
    exact ⟨n, rfl, trivial⟩) h2
  refine ⟨⟨u, p, A, len, cap⟩, ?_, xs, hlen, hI⟩
  have e : cs = cs.drop 0 := rfl
  rw [e, seg cs 0 1, seg cs (0 + 1) 1, seg cs (0 + 1 + 1) 1, List.drop_eq_nil_of_le (show cs.length ≤ 0 + 1 + 1 + 1 by omega), e0, e1, e2]
  rfl
theorem rd_O (h : Rd? H enc Try.prog w base sp held 37 cs) : ∃ o : OpV, cs = EO.f o ∧ ∃ xs : List Int, o.c.len = xs.length ∧ isl EI (hp w) o.c.A xs := by
  obtain ⟨hl, hf⟩ := rd_struct h
  rw [cellsOf_agg (s := 14)] at hl
  have h0 := hf 0 _ _ rfl
  have h1 := hf 1 _ _ rfl
  have h2 := hf 2 _ _ rfl
  have h3 := hf 3 _ _ rfl
  have h4 := hf 4 _ _ rfl
  have h5 := hf 5 _ _ rfl
  rw [cellsOf_cell] at h0 h5
  rw [cellsOf_agg (s := 3)] at h1 h2 h3 h4
  obtain ⟨k, e0, _⟩ := rd_int h0
  obtain ⟨v1, e1⟩ := rd_V h1
  obtain ⟨v2, e2⟩ := rd_V h2
  obtain ⟨v3, e3⟩ := rd_V h3
  obtain ⟨c, e4, hc⟩ := rd_C h4
  obtain ⟨n, e5, _⟩ := rd_int h5
  refine ⟨⟨k, v1, v2, v3, c, n⟩, ?_, hc⟩
  have e : cs = cs.drop 0 := rfl
  rw [e, seg cs 0 1, seg cs (0 + 1) 3, seg cs (0 + 1 + 3) 3, seg cs (0 + 1 + 3 + 3) 3, seg cs (0 + 1 + 3 + 3 + 3) 3, seg cs (0 + 1 + 3 + 3 + 3 + 3) 1, List.drop_eq_nil_of_le (show cs.length ≤ 0 + 1 + 3 + 3 + 3 + 3 + 1 by omega), e0, e1, e2, e3, e4, e5]
  rfl
end
theorem walk (room : Int) (A : Option Addr) (c : Nat) (os : List OpV) (W : World) (hI : OpsIn (hp W) A os) :
    Calls Try.prog 3 #[.int .i64 room, .slice A os.length c] W fun e W' => e = .returned (.bool true) ∧ Below W.heap.size W W' := by
  by_cases hr : 0 ≤ room ∧ room ≤ 1000000
  · exact calls_of_spec (plays_c (hp W) room A c os hI hr)
  · exact calls_of_spec ((plays_no (hp W) room A c os hr).mono fun v L ⟨h1, h2⟩ => ⟨L, ⟨h1, hp W, fun _ _ h => h, h2⟩, fun _ h => h⟩)
set_option maxRecDepth 100000 in
theorem lifted (os : Os) (started : os.Started) (H : Type) (enc : TypeId × Value → H) :
    ReturnsInHanded {} Try.checked os 3 .any (Rows.heapPlaysSpec.pre6 enc Try.prog Try.f3 Rows.heapPlaysRow.domain false) (Rows.heapPlaysSpec.post enc Try.prog Try.f3 false true false false) := by
  refine returnsInHanded_of_change_sized (C := Try.checked) own started (by kernel_rfl) Try.func3
    (ChangeSpec.witness6 (enc := enc) (C := Try.checked) false ⟨#[], #[.int .i64 0, .slice none 0 0], []⟩ 8 (by kernel_rfl) (by kernel_rfl) (by kernel_rfl) (by kernel_rfl)) ?_
  intro W base args ds gs before hval0 hW hcnd hsz0 _
  have hval : ∀ (j : Nat) t v, Try.f3.params[j]? = some t → args[j]? = some v → Value.okWide Try.prog W .any base t v := hval0
  have hW' := hW
  obtain ⟨p, q, hA0, hV, rfl, hfz, hnd⟩ := hW
  have hA : DataW.TrodAll enc Try.prog W 0 (fun _ => true) true Try.f3.params.toList args.toList ds p := hA0
  rw [Try.params3] at hA hval
  obtain ⟨v0, vs0, d0, ds0, p0, q0, hargs, rfl, rfl, h0, r0⟩ := trodAll_cons hA
  obtain ⟨v1, vs1, d1, ds1, p1, q1, rfl, rfl, rfl, h1, r1⟩ := trodAll_cons r0
  obtain ⟨rfl, rfl, rfl⟩ := trodAll_nil r1
  obtain rfl : args = #[v0, v1] := by cases args; simp_all
  obtain ⟨rfl, rfl⟩ := trodVars_none hV
  obtain ⟨a0, rfl, rfl, rfl, w0⟩ := open_int Try.underlying3 (hval 0 3 v0 rfl rfl) h0
  obtain ⟨a1, len1, cap1, rfl⟩ := okWide_slice Try.underlying22 (hval 1 22 v1 rfl rfl)
  have k1 := h1
  have lt1 : ∀ x ∈ p1, x.block < W.heap.size := by obtain ⟨m, hm⟩ := k1; exact DataW.trod_lt m _ _ _ hm
  obtain ⟨m1, hm1⟩ := h1
  obtain ⟨A, len, cap, xs, e1, hlen, hI, _, _, hG⟩ := rd_slice (E := EO) (G := fun o => ∃ xs : List Int, o.c.len = xs.length ∧ isl EI (hp W) o.c.A xs) (t := 22) rfl (fun cs' h => rd_O h) ⟨m1, _, hm1⟩
  obtain ⟨rfl, rfl, rfl⟩ : a1 = A ∧ len1 = len ∧ cap1 = cap := by
    simp [Value.cells] at e1
    exact e1
  subst hlen
  clear hA0 hval0 hsz0
  refine (walk a0 a1 cap1 xs W ⟨hI, hG⟩).mono fun e W' ⟨he, bel⟩ => ?_
  subst he
  exact ⟨_, rfl, _, _, _, [], _, [], hW', trodAll_mk1 (shut_bool Try.underlying4 _), (trodAll_cons_mk (shut_int Try.underlying3 w0) (trodAll_cons_mk (Below.trod laidOut (by kernel_rfl) (of_decide_eq_true (by kernel_rfl)) k1 bel lt1) trodAll_mk0)), rfl, bel.frame _, fun h => by cases h⟩
theorem over : Rows.heapPlaysRow.holds Try.pinned (OpenSpec.ofChange Rows.heapPlaysSpec) :=
  OpenClaim.holds_of_wide 3 Try.f3 rfl rfl rfl rfl rfl rfl rfl ⟨rfl, rfl, rfl, rfl, rfl⟩ rfl rfl rfl rfl rfl (by kernel_rfl) Try.func3 (by kernel_rfl)
    (of_decide_eq_true (by kernel_rfl)) (by unfold Func.isWrapper; first | (rw [if_pos (by decide +kernel)]; kernel_rfl) | (rw [if_neg (by decide +kernel)]; exact ⟨rfl, rfl⟩))
    (fun os started H enc _ => lifted os started H enc)
theorem proved : Rows.HeapPlaysSaid := over
#print axioms proved
end Go.Proofs.Ytajekiiabkaflaa.heapPlays
namespace Go.Proofs.Ytajekiiabkaflaa
/-- The row, under a short name, for the claim. -/
theorem heapPlays_holds : Rows.HeapPlaysSaid := heapPlays.proved
end Go.Proofs.Ytajekiiabkaflaa
