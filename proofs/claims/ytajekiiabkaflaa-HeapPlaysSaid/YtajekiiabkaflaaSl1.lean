/-
  A small separation logic over the model's worlds: assertions, and the laws of blocks. Program-independent. Conditions: none.
-/
import Derived.Tactics
import Derived.Deep.Quiet
set_option linter.unusedVariables false
set_option linter.unusedSimpArgs false
namespace Go.Sl

/-! ### 1. Heaps as functions -/
abbrev Hp := Nat → Option Obj
def hp (w : World) : Hp := fun b => w.heap[b]?
def upd (h : Hp) (b : Nat) (o : Obj) : Hp := fun i => if i = b then some o else h i
def apart (h k : Hp) : Prop := ∀ i, h i = none ∨ k i = none
def join (h k : Hp) : Hp := fun i => (h i).or (k i)
abbrev SP := Hp → Prop
/-- Block b holds o. -/
def pts (b : Nat) (o : Obj) : SP := fun h => h b = some o
/-- All that I holds is held. -/
def eqh (I : Hp) : SP := fun h => ∀ b o, I b = some o → h b = some o
def seps : List SP → SP
  | [], _ => True
  | A :: L, h => ∃ h1 h2, apart h1 h2 ∧ h = join h1 h2 ∧ A h1 ∧ seps L h2

theorem apart_symm {h k : Hp} (a : apart h k) : apart k h := fun i => (a i).symm
theorem join_comm {h k : Hp} (a : apart h k) : join h k = join k h := by
  funext i
  rcases a i with e | e <;> simp [join, e]
theorem join_assoc (h k l : Hp) : join (join h k) l = join h (join k l) := by
  funext i
  simp [join, Option.or_assoc]
theorem apart_join {h k l : Hp} : apart h (join k l) ↔ apart h k ∧ apart h l := by
  constructor
  · intro a
    refine ⟨fun i => ?_, fun i => ?_⟩
    · rcases a i with e | e
      · exact .inl e
      · simp [join] at e; exact .inr e.1
    · rcases a i with e | e
      · exact .inl e
      · simp [join] at e; exact .inr e.2
  · rintro ⟨a, b⟩ i
    rcases a i with e | e
    · exact .inl e
    · rcases b i with e' | e'
      · exact .inl e'
      · exact .inr (by simp [join, e, e'])
theorem seps_swap {A B : SP} {L : List SP} {h : Hp} (hs : seps (A :: B :: L) h) : seps (B :: A :: L) h := by
  obtain ⟨h1, h2, a, rfl, hA, h3, h4, b, rfl, hB, hL⟩ := hs
  rw [apart_join] at a
  refine ⟨h3, join h1 h4, ?_, ?_, hB, h1, h4, a.2, rfl, hA, hL⟩
  · rw [apart_join]; exact ⟨apart_symm a.1, b⟩
  · rw [← join_assoc, ← join_assoc, join_comm a.1]
theorem seps_tail {A : SP} {L L' : List SP} (f : ∀ h, seps L h → seps L' h) {h : Hp} (hs : seps (A :: L) h) : seps (A :: L') h := by
  obtain ⟨h1, h2, a, e, hA, hL⟩ := hs
  exact ⟨h1, h2, a, e, hA, f _ hL⟩
theorem seps_head {A B : SP} {L : List SP} (f : ∀ h, A h → B h) {h : Hp} (hs : seps (A :: L) h) : seps (B :: L) h := by
  obtain ⟨h1, h2, a, e, hA, hL⟩ := hs
  exact ⟨h1, h2, a, e, f _ hA, hL⟩

/-- L is A and R, in some order. -/
structure Has (L : List SP) (A : SP) (R : List SP) : Prop where
  to : ∀ h, seps L h → seps (A :: R) h
theorem has_hd {A : SP} {L : List SP} : Has (A :: L) A L := ⟨fun _ h => h⟩
theorem has_tl {A B : SP} {L R : List SP} (h : Has L A R) : Has (B :: L) A (B :: R) :=
  ⟨fun _ hs => seps_swap (seps_tail h.to hs)⟩
theorem hs_0 {A : SP} {L : List SP} : Has (A :: L) A (L) := has_hd
theorem hs_1 {B0 A : SP} {L : List SP} : Has (B0 :: A :: L) A (B0 :: L) := has_tl (has_hd)
theorem hs_2 {B0 B1 A : SP} {L : List SP} : Has (B0 :: B1 :: A :: L) A (B0 :: B1 :: L) := has_tl (has_tl (has_hd))
theorem hs_3 {B0 B1 B2 A : SP} {L : List SP} : Has (B0 :: B1 :: B2 :: A :: L) A (B0 :: B1 :: B2 :: L) := has_tl (has_tl (has_tl (has_hd)))
theorem hs_4 {B0 B1 B2 B3 A : SP} {L : List SP} : Has (B0 :: B1 :: B2 :: B3 :: A :: L) A (B0 :: B1 :: B2 :: B3 :: L) := has_tl (has_tl (has_tl (has_tl (has_hd))))
theorem hs_5 {B0 B1 B2 B3 B4 A : SP} {L : List SP} : Has (B0 :: B1 :: B2 :: B3 :: B4 :: A :: L) A (B0 :: B1 :: B2 :: B3 :: B4 :: L) := has_tl (has_tl (has_tl (has_tl (has_tl (has_hd)))))
theorem hs_6 {B0 B1 B2 B3 B4 B5 A : SP} {L : List SP} : Has (B0 :: B1 :: B2 :: B3 :: B4 :: B5 :: A :: L) A (B0 :: B1 :: B2 :: B3 :: B4 :: B5 :: L) := has_tl (has_tl (has_tl (has_tl (has_tl (has_tl (has_hd))))))
theorem hs_7 {B0 B1 B2 B3 B4 B5 B6 A : SP} {L : List SP} : Has (B0 :: B1 :: B2 :: B3 :: B4 :: B5 :: B6 :: A :: L) A (B0 :: B1 :: B2 :: B3 :: B4 :: B5 :: B6 :: L) := has_tl (has_tl (has_tl (has_tl (has_tl (has_tl (has_tl (has_hd)))))))
theorem hs_8 {B0 B1 B2 B3 B4 B5 B6 B7 A : SP} {L : List SP} : Has (B0 :: B1 :: B2 :: B3 :: B4 :: B5 :: B6 :: B7 :: A :: L) A (B0 :: B1 :: B2 :: B3 :: B4 :: B5 :: B6 :: B7 :: L) := has_tl (has_tl (has_tl (has_tl (has_tl (has_tl (has_tl (has_tl (has_hd))))))))
theorem hs_9 {B0 B1 B2 B3 B4 B5 B6 B7 B8 A : SP} {L : List SP} : Has (B0 :: B1 :: B2 :: B3 :: B4 :: B5 :: B6 :: B7 :: B8 :: A :: L) A (B0 :: B1 :: B2 :: B3 :: B4 :: B5 :: B6 :: B7 :: B8 :: L) := has_tl (has_tl (has_tl (has_tl (has_tl (has_tl (has_tl (has_tl (has_tl (has_hd)))))))))
theorem hs_10 {B0 B1 B2 B3 B4 B5 B6 B7 B8 B9 A : SP} {L : List SP} : Has (B0 :: B1 :: B2 :: B3 :: B4 :: B5 :: B6 :: B7 :: B8 :: B9 :: A :: L) A (B0 :: B1 :: B2 :: B3 :: B4 :: B5 :: B6 :: B7 :: B8 :: B9 :: L) := has_tl (has_tl (has_tl (has_tl (has_tl (has_tl (has_tl (has_tl (has_tl (has_tl (has_hd))))))))))
theorem hs_11 {B0 B1 B2 B3 B4 B5 B6 B7 B8 B9 B10 A : SP} {L : List SP} : Has (B0 :: B1 :: B2 :: B3 :: B4 :: B5 :: B6 :: B7 :: B8 :: B9 :: B10 :: A :: L) A (B0 :: B1 :: B2 :: B3 :: B4 :: B5 :: B6 :: B7 :: B8 :: B9 :: B10 :: L) := has_tl (has_tl (has_tl (has_tl (has_tl (has_tl (has_tl (has_tl (has_tl (has_tl (has_tl (has_hd)))))))))))
theorem hs_12 {B0 B1 B2 B3 B4 B5 B6 B7 B8 B9 B10 B11 A : SP} {L : List SP} : Has (B0 :: B1 :: B2 :: B3 :: B4 :: B5 :: B6 :: B7 :: B8 :: B9 :: B10 :: B11 :: A :: L) A (B0 :: B1 :: B2 :: B3 :: B4 :: B5 :: B6 :: B7 :: B8 :: B9 :: B10 :: B11 :: L) := has_tl (has_tl (has_tl (has_tl (has_tl (has_tl (has_tl (has_tl (has_tl (has_tl (has_tl (has_tl (has_hd))))))))))))
theorem hs_13 {B0 B1 B2 B3 B4 B5 B6 B7 B8 B9 B10 B11 B12 A : SP} {L : List SP} : Has (B0 :: B1 :: B2 :: B3 :: B4 :: B5 :: B6 :: B7 :: B8 :: B9 :: B10 :: B11 :: B12 :: A :: L) A (B0 :: B1 :: B2 :: B3 :: B4 :: B5 :: B6 :: B7 :: B8 :: B9 :: B10 :: B11 :: B12 :: L) := has_tl (has_tl (has_tl (has_tl (has_tl (has_tl (has_tl (has_tl (has_tl (has_tl (has_tl (has_tl (has_tl (has_hd)))))))))))))
theorem hs_14 {B0 B1 B2 B3 B4 B5 B6 B7 B8 B9 B10 B11 B12 B13 A : SP} {L : List SP} : Has (B0 :: B1 :: B2 :: B3 :: B4 :: B5 :: B6 :: B7 :: B8 :: B9 :: B10 :: B11 :: B12 :: B13 :: A :: L) A (B0 :: B1 :: B2 :: B3 :: B4 :: B5 :: B6 :: B7 :: B8 :: B9 :: B10 :: B11 :: B12 :: B13 :: L) := has_tl (has_tl (has_tl (has_tl (has_tl (has_tl (has_tl (has_tl (has_tl (has_tl (has_tl (has_tl (has_tl (has_tl (has_hd))))))))))))))
theorem hs_15 {B0 B1 B2 B3 B4 B5 B6 B7 B8 B9 B10 B11 B12 B13 B14 A : SP} {L : List SP} : Has (B0 :: B1 :: B2 :: B3 :: B4 :: B5 :: B6 :: B7 :: B8 :: B9 :: B10 :: B11 :: B12 :: B13 :: B14 :: A :: L) A (B0 :: B1 :: B2 :: B3 :: B4 :: B5 :: B6 :: B7 :: B8 :: B9 :: B10 :: B11 :: B12 :: B13 :: B14 :: L) := has_tl (has_tl (has_tl (has_tl (has_tl (has_tl (has_tl (has_tl (has_tl (has_tl (has_tl (has_tl (has_tl (has_tl (has_tl (has_hd)))))))))))))))
theorem hs_16 {B0 B1 B2 B3 B4 B5 B6 B7 B8 B9 B10 B11 B12 B13 B14 B15 A : SP} {L : List SP} : Has (B0 :: B1 :: B2 :: B3 :: B4 :: B5 :: B6 :: B7 :: B8 :: B9 :: B10 :: B11 :: B12 :: B13 :: B14 :: B15 :: A :: L) A (B0 :: B1 :: B2 :: B3 :: B4 :: B5 :: B6 :: B7 :: B8 :: B9 :: B10 :: B11 :: B12 :: B13 :: B14 :: B15 :: L) := has_tl (has_tl (has_tl (has_tl (has_tl (has_tl (has_tl (has_tl (has_tl (has_tl (has_tl (has_tl (has_tl (has_tl (has_tl (has_tl (has_hd))))))))))))))))
theorem hs_17 {B0 B1 B2 B3 B4 B5 B6 B7 B8 B9 B10 B11 B12 B13 B14 B15 B16 A : SP} {L : List SP} : Has (B0 :: B1 :: B2 :: B3 :: B4 :: B5 :: B6 :: B7 :: B8 :: B9 :: B10 :: B11 :: B12 :: B13 :: B14 :: B15 :: B16 :: A :: L) A (B0 :: B1 :: B2 :: B3 :: B4 :: B5 :: B6 :: B7 :: B8 :: B9 :: B10 :: B11 :: B12 :: B13 :: B14 :: B15 :: B16 :: L) := has_tl (has_tl (has_tl (has_tl (has_tl (has_tl (has_tl (has_tl (has_tl (has_tl (has_tl (has_tl (has_tl (has_tl (has_tl (has_tl (has_tl (has_hd)))))))))))))))))
theorem hs_18 {B0 B1 B2 B3 B4 B5 B6 B7 B8 B9 B10 B11 B12 B13 B14 B15 B16 B17 A : SP} {L : List SP} : Has (B0 :: B1 :: B2 :: B3 :: B4 :: B5 :: B6 :: B7 :: B8 :: B9 :: B10 :: B11 :: B12 :: B13 :: B14 :: B15 :: B16 :: B17 :: A :: L) A (B0 :: B1 :: B2 :: B3 :: B4 :: B5 :: B6 :: B7 :: B8 :: B9 :: B10 :: B11 :: B12 :: B13 :: B14 :: B15 :: B16 :: B17 :: L) := has_tl (has_tl (has_tl (has_tl (has_tl (has_tl (has_tl (has_tl (has_tl (has_tl (has_tl (has_tl (has_tl (has_tl (has_tl (has_tl (has_tl (has_tl (has_hd))))))))))))))))))
theorem hs_19 {B0 B1 B2 B3 B4 B5 B6 B7 B8 B9 B10 B11 B12 B13 B14 B15 B16 B17 B18 A : SP} {L : List SP} : Has (B0 :: B1 :: B2 :: B3 :: B4 :: B5 :: B6 :: B7 :: B8 :: B9 :: B10 :: B11 :: B12 :: B13 :: B14 :: B15 :: B16 :: B17 :: B18 :: A :: L) A (B0 :: B1 :: B2 :: B3 :: B4 :: B5 :: B6 :: B7 :: B8 :: B9 :: B10 :: B11 :: B12 :: B13 :: B14 :: B15 :: B16 :: B17 :: B18 :: L) := has_tl (has_tl (has_tl (has_tl (has_tl (has_tl (has_tl (has_tl (has_tl (has_tl (has_tl (has_tl (has_tl (has_tl (has_tl (has_tl (has_tl (has_tl (has_tl (has_hd)))))))))))))))))))
/-- L is Pre and R. -/
structure Split (L Pre R : List SP) : Prop where
  to : ∀ h, seps L h → seps (Pre ++ R) h
theorem split_nil {L : List SP} : Split L [] L := ⟨fun _ h => h⟩
theorem split_cons {L L1 R : List SP} {A : SP} {Pre : List SP} (h : Has L A L1) (s : Split L1 Pre R) : Split L (A :: Pre) R :=
  ⟨fun _ hs => seps_tail s.to (h.to _ hs)⟩

/-- What holds of L holds of M. -/
structure Ent (L M : List SP) : Prop where
  to : ∀ h, seps L h → seps M h
theorem ent_refl {L : List SP} : Ent L L := ⟨fun _ h => h⟩
theorem ent_cons {L L1 M : List SP} {A : SP} (h : Has L A L1) (e : Ent L1 M) : Ent L (A :: M) := ⟨fun _ hs => seps_tail e.to (h.to _ hs)⟩
theorem Ent.trans {L M N : List SP} (a : Ent L M) (b : Ent M N) : Ent L N := ⟨fun h hs => b.to h (a.to h hs)⟩
theorem Split.ent {L Pre R : List SP} (s : Split L Pre R) : Ent L (Pre ++ R) := ⟨s.to⟩
theorem seps_mono : ∀ {L : List SP} {h h' : Hp}, (∀ b o, h b = some o → h' b = some o) → seps L h → seps L h'
  | [], _, _, _, _ => trivial
  | A :: L, _, h', m, ⟨h1, h2, a, e, hA, hL⟩ => by
    subst e
    refine ⟨h1, fun i => if (h1 i).isSome then none else h' i, fun i => ?_, ?_, hA, ?_⟩
    · cases e : h1 i with
      | none => exact .inl rfl
      | some o => exact .inr (by simp [e])
    · funext i
      cases e : h1 i with
      | none => simp [join, e]
      | some o => simp [join, e]; exact m i o (by simp [join, e])
    · refine seps_mono ?_ hL
      intro b o hb
      have : h1 b = none := by rcases a b with e | e; exact e; simp [e] at hb
      simp [this]
      exact m b o (by simp [join, this, hb])
theorem seps_drop {A : SP} {L : List SP} {h : Hp} (hs : seps (A :: L) h) : seps L h := by
  obtain ⟨h1, h2, a, rfl, _, hL⟩ := hs
  refine seps_mono ?_ hL
  intro b o hb
  have : h1 b = none := by rcases a b with e | e; exact e; simp [e] at hb
  simp [join, this, hb]
theorem ent_drop {A : SP} {L M : List SP} (e : Ent L M) : Ent (A :: L) M := ⟨fun h hs => e.to h (seps_drop hs)⟩
theorem seps_upd_new {L : List SP} {h : Hp} {b : Nat} {o : Obj} (hb : h b = none) (hs : seps L h) : seps (pts b o :: L) (upd h b o) := by
  refine ⟨fun i => if i = b then some o else none, h, fun i => ?_, ?_, by simp [pts], hs⟩
  · by_cases e : i = b
    · subst e; exact .inr hb
    · exact .inl (by simp [e])
  · funext i
    by_cases e : i = b <;> simp [upd, join, e]
theorem seps_at {L : List SP} {h : Hp} {b : Nat} {o : Obj} (hs : seps (pts b o :: L) h) : h b = some o := by
  obtain ⟨h1, h2, a, rfl, hA, _⟩ := hs
  simp [pts] at hA
  simp [join, hA]
theorem seps_eqh {L : List SP} {h I : Hp} (hs : seps (eqh I :: L) h) {b : Nat} {o : Obj} (hb : I b = some o) : h b = some o := by
  obtain ⟨h1, h2, a, rfl, hA, _⟩ := hs
  simp [join, hA b o hb]
theorem seps_upd {L : List SP} {h : Hp} {b : Nat} {o o' : Obj} (hs : seps (pts b o :: L) h) : seps (pts b o' :: L) (upd h b o') := by
  obtain ⟨h1, h2, a, rfl, hA, hL⟩ := hs
  simp [pts] at hA
  have hn : h2 b = none := by rcases a b with e | e; (rw [hA] at e; cases e); exact e
  refine ⟨upd h1 b o', h2, fun i => ?_, ?_, by simp [pts, upd], hL⟩
  · by_cases e : i = b
    · subst e; exact .inr hn
    · rcases a i with e1 | e1
      · exact .inl (by simp [upd, e, e1])
      · exact .inr e1
  · funext i
    by_cases e : i = b <;> simp [upd, join, e]
theorem seps_app {L M : List SP} {h : Hp} : seps (L ++ M) h ↔ ∃ h1 h2, apart h1 h2 ∧ h = join h1 h2 ∧ seps L h1 ∧ seps M h2 := by
  induction L generalizing h with
  | nil =>
    constructor
    · intro hs
      refine ⟨fun _ => none, h, fun _ => .inl rfl, by funext i; simp [join], trivial, hs⟩
    · rintro ⟨h1, h2, a, rfl, _, hM⟩
      refine seps_mono ?_ hM
      intro b o hb
      have : h1 b = none := by rcases a b with e | e; exact e; simp [e] at hb
      simp [join, this, hb]
  | cons A L ih =>
    constructor
    · rintro ⟨h1, h2, a, rfl, hA, hs⟩
      obtain ⟨h3, h4, b, rfl, hL, hM⟩ := ih.1 hs
      rw [apart_join] at a
      exact ⟨join h1 h3, h4, apart_symm (apart_join.2 ⟨apart_symm a.2, apart_symm b⟩), (join_assoc _ _ _).symm, ⟨h1, h3, a.1, rfl, hA, hL⟩, hM⟩
    · rintro ⟨h1, h2, a, rfl, ⟨h3, h4, b, rfl, hA, hL⟩, hM⟩
      have a' := apart_join.1 (apart_symm a)
      exact ⟨h3, join h4 h2, apart_join.2 ⟨b, apart_symm a'.1⟩, join_assoc _ _ _, hA, ih.2 ⟨h4, h2, apart_symm a'.2, rfl, hL, hM⟩⟩
theorem seps_app_head {A : SP} {L M : List SP} (f : ∀ h, A h → seps L h) {h : Hp} (hs : seps (A :: M) h) : seps (L ++ M) h := by
  obtain ⟨h1, h2, a, e, hA, hM⟩ := hs
  exact seps_app.2 ⟨h1, h2, a, e, f _ hA, hM⟩
theorem seps_app_shut {A : SP} {L M : List SP} (f : ∀ h, seps L h → A h) {h : Hp} (hs : seps (L ++ M) h) : seps (A :: M) h := by
  obtain ⟨h1, h2, a, e, hL, hM⟩ := seps_app.1 hs
  exact ⟨h1, h2, a, e, f _ hL, hM⟩

/-! ### 2. Worlds -/
def Sat (L : List SP) (w : World) : Prop := seps L (hp w)
structure Env (w0 w : World) : Prop where
  os : w.os = w0.os
  tape : w.tape = w0.tape
  output : w.output = w0.output
theorem Env.refl (w : World) : Env w w := ⟨rfl, rfl, rfl⟩
theorem Sat.has {L R : List SP} {A : SP} {w : World} (s : Sat L w) (h : Has L A R) : Sat (A :: R) w := h.to _ s
theorem Sat.at {L : List SP} {b : Nat} {o : Obj} {w : World} (s : Sat (pts b o :: L) w) : w.heap[b]? = some o := seps_at s
theorem hp_alloc (w : World) (o : Obj) : hp (w.alloc o) = upd (hp w) w.heap.size o := by
  funext i
  show (w.heap.push o)[i]? = if i = w.heap.size then some o else w.heap[i]?
  rw [Array.getElem?_push]
theorem Sat.alloc {L : List SP} {w : World} (s : Sat L w) (o : Obj) : Sat (pts w.heap.size o :: L) (w.alloc o) := by
  unfold Sat
  rw [hp_alloc]
  exact seps_upd_new (by simp [hp]) s
theorem Sat.drew {L : List SP} {w : World} (s : Sat L w) : Sat L w.drew := s
theorem Sat.of_drawn {L : List SP} {w : World} (s : Sat L w) : Sat L { w with drawn := w.drawn + 1 } := s
theorem Env.drew {w0 w : World} (e : Env w0 w) : Env w0 w.drew := ⟨e.os, e.tape, e.output⟩
theorem Env.alloc {w0 w : World} (e : Env w0 w) (o : Obj) : Env w0 (w.alloc o) := ⟨e.os, e.tape, e.output⟩
def setObj' (w : World) (b : Nat) (o : Obj) : World := { w with heap := w.heap.setIfInBounds b o }
theorem hp_set {w : World} {b : Nat} {o o' : Obj} (hb : w.heap[b]? = some o) : hp (setObj' w b o') = upd (hp w) b o' := by
  have hlt : b < w.heap.size := (Array.getElem?_eq_some_iff.1 hb).1
  funext i
  simp only [hp, upd, setObj', Array.getElem?_setIfInBounds]
  by_cases e : b = i
  · subst e; simp [hlt]
  · rw [if_neg e, if_neg (fun h => e h.symm)]
theorem Sat.set {L : List SP} {b : Nat} {o o' : Obj} {w : World} (s : Sat (pts b o :: L) w) : Sat (pts b o' :: L) (setObj' w b o') := by
  unfold Sat
  rw [hp_set s.at]
  exact seps_upd s
theorem Env.set {w0 w : World} (e : Env w0 w) (b : Nat) (o : Obj) : Env w0 (setObj' w b o) := ⟨e.os, e.tape, e.output⟩
theorem setCell_eq {w : World} {b off : Nat} {c : Array Value} {e : TypeId} {fr : Nat × Nat} (hb : w.heap[b]? = some (.cells c e fr)) (v : Value) :
    w.setCell ⟨b, off, none⟩ v = setObj' w b (.cells (c.setIfInBounds off v) e fr) := by
  have hlt : b < w.heap.size := (Array.getElem?_eq_some_iff.1 hb).1
  unfold World.setCell setObj'
  congr 1
  apply Array.ext_getElem?
  intro i
  rw [Array.getElem?_modify, Array.getElem?_setIfInBounds]
  by_cases e : b = i
  · subst e
    rw [if_pos rfl, if_pos rfl, hb]
    simp [hlt]
  · simp [e]
theorem cell_at {w : World} {b off : Nat} {c : Array Value} {e : TypeId} {fr : Nat × Nat} (hb : w.heap[b]? = some (.cells c e fr)) : w.cell? ⟨b, off, none⟩ = c[off]? := by
  simp [World.cell?, hb]
theorem free_at {w : World} {b off : Nat} {c : Array Value} {e : TypeId} (hb : w.heap[b]? = some (.cells c e (0, 0))) : w.frozen? ⟨b, off, none⟩ = false := by
  simp [World.frozen?, hb]
end Go.Sl
