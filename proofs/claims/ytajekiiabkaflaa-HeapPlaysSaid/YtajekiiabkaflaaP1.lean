/- The plain law of the heaps: the order of keys; tables beside sorted tables. Conditions: none. -/
import Derived.Test.YtajekiiabkaflaaR7
set_option linter.unusedVariables false
set_option linter.unusedSimpArgs false
namespace Go.Sl
open Go.Proofs
/-! ### Bytes in order -/
theorem bl_irr : ∀ x : List UInt8, Op.bytesLess x x = false
  | [] => rfl
  | a :: x => by simp [Op.bytesLess, bl_irr x]
theorem bl_tr : ∀ x y z : List UInt8, Op.bytesLess x y = true → Op.bytesLess y z = true → Op.bytesLess x z = true
  | x, [], z, h, _ => by cases x <;> simp [Op.bytesLess] at h
  | x, b :: y, [], _, h => by simp [Op.bytesLess] at h
  | [], b :: y, c :: z, _, _ => rfl
  | a :: x, b :: y, c :: z, h1, h2 => by
    simp only [Op.bytesLess, Bool.or_eq_true, Bool.and_eq_true, decide_eq_true_eq, beq_iff_eq] at h1 h2 ⊢
    rcases h1 with h1 | ⟨rfl, h1⟩
    · rcases h2 with h2 | ⟨rfl, h2⟩
      · exact .inl (UInt8.lt_trans h1 h2)
      · exact .inl h1
    · rcases h2 with h2 | ⟨rfl, h2⟩
      · exact .inl h2
      · exact .inr ⟨rfl, bl_tr x y z h1 h2⟩
theorem bl_tot : ∀ x y : List UInt8, Op.bytesLess x y = false → Op.bytesLess y x = false → x = y
  | [], [], _, _ => rfl
  | [], b :: y, h, _ => by simp [Op.bytesLess] at h
  | a :: x, [], _, h => by simp [Op.bytesLess] at h
  | a :: x, b :: y, h1, h2 => by
    simp only [Op.bytesLess, Bool.or_eq_false_iff, Bool.and_eq_false_iff, decide_eq_false_iff_not, beq_eq_false_iff_ne] at h1 h2
    have e : a = b := by
      have := h1.1; have := h2.1
      apply UInt8.toNat_inj.1
      simp only [UInt8.lt_iff_toNat_lt] at *
      omega
    subst e
    rcases h1.2 with h | h
    · exact absurd rfl h
    · rcases h2.2 with h' | h'
      · exact absurd rfl h'
      · rw [bl_tot x y h h']
/-! ### Right values, right keys -/
def isB (v : V) : Bool := if v.k = 0 then decide (v.n = 0) && decide (v.s = ⟨#[]⟩) else if v.k = 2 then decide (v.n = 0) && decide (v.s.size ≤ 1024) else decide (0 ≤ v.k) && decide (v.k ≤ 5) && decide (v.s = ⟨#[]⟩)
structure RK (k : V) : Prop where
  key : keyB k = true
  is : isB k = true
theorem RK.cases {k : V} (h : RK k) : (k.k = 1 ∧ k.s = ⟨#[]⟩) ∨ (k.k = 2 ∧ k.n = 0 ∧ k.s.size ≤ 1024) := by
  have h1 := h.key
  have h2 := h.is
  have h3 : k.k = 1 ∨ k.k = 2 := by simpa [keyB] using h1
  rcases h3 with h3 | h3
  · left
    rw [isB, if_neg (by omega), if_neg (by omega)] at h2
    simp at h2
    exact ⟨h3, h2.2⟩
  · right
    rw [isB, if_neg (by omega), if_pos h3] at h2
    simp at h2
    exact ⟨h3, h2.1, h2.2⟩
theorem RK.size {k : V} (h : RK k) : k.s.size ≤ 1024 := by
  rcases h.cases with ⟨_, h⟩ | ⟨_, _, h⟩
  · rw [h]; decide
  · exact h
theorem rah_int {a b : V} (ha : a.k = 1) (hb : b.k = 1) : rah a b = decide (a.n < b.n) := by simp [rah, two2, ha, hb]
theorem rah_txt {a b : V} (ha : a.k = 2) (hb : b.k = 2) : rah a b = Op.bytesLess a.s.toList b.s.toList := by simp [rah, two2, ha, hb, sless]
theorem rah_12 {a b : V} (ha : a.k = 1) (hb : b.k = 2) : rah a b = true := by simp [rah, ha, hb]
theorem rah_21 {a b : V} (ha : a.k = 2) (hb : b.k = 1) : rah a b = false := by simp [rah, ha, hb]
theorem rah_irr {a : V} (ha : RK a) : rah a a = false := by
  rcases ha.cases with ⟨h, _⟩ | ⟨h, _⟩
  · rw [rah_int h h]; simp
  · rw [rah_txt h h, bl_irr]
theorem rah_tr {a b c : V} (ha : RK a) (hb : RK b) (hc : RK c) (h1 : rah a b = true) (h2 : rah b c = true) : rah a c = true := by
  rcases ha.cases with ⟨ka, _⟩ | ⟨ka, _⟩ <;> rcases hb.cases with ⟨kb, _⟩ | ⟨kb, _⟩ <;> rcases hc.cases with ⟨kc, _⟩ | ⟨kc, _⟩
  · rw [rah_int ka kb] at h1; rw [rah_int kb kc] at h2; rw [rah_int ka kc]; simp at h1 h2 ⊢; omega
  · exact rah_12 ka kc
  · rw [rah_21 kb kc] at h2; cases h2
  · exact rah_12 ka kc
  · rw [rah_21 ka kb] at h1; cases h1
  · rw [rah_21 ka kb] at h1; cases h1
  · rw [rah_21 kb kc] at h2; cases h2
  · rw [rah_txt ka kb] at h1; rw [rah_txt kb kc] at h2; rw [rah_txt ka kc]; exact bl_tr _ _ _ h1 h2
theorem rah_tot {a b : V} (ha : RK a) (hb : RK b) (h1 : rah a b = false) (h2 : rah b a = false) : a = b := by
  rcases ha.cases with ⟨ka, sa⟩ | ⟨ka, na, _⟩ <;> rcases hb.cases with ⟨kb, sb⟩ | ⟨kb, nb, _⟩
  · rw [rah_int ka kb] at h1; rw [rah_int kb ka] at h2
    simp at h1 h2
    cases a; cases b; simp_all; omega
  · rw [rah_12 ka kb] at h1; cases h1
  · rw [rah_12 kb ka] at h2; cases h2
  · rw [rah_txt ka kb] at h1; rw [rah_txt kb ka] at h2
    have e := bytes_inj.1 (bl_tot _ _ h1 h2)
    cases a; cases b; simp_all
theorem ahd_rah {a b : V} (ha : RK a) (hb : RK b) : ahd a b = rah a b := by
  rcases ha.cases with ⟨ka, sa⟩ | ⟨ka, na, _⟩ <;> rcases hb.cases with ⟨kb, sb⟩ | ⟨kb, nb, _⟩ <;> simp [ahd, rah, two2, ka, kb]
/-! ### Sorted lists -/
def Srt (l : List V) : Prop := l.Pairwise fun a b => rah a b = true
theorem srt_uniq : ∀ {l l' : List V}, (∀ a ∈ l, RK a) → Srt l → Srt l' → List.Perm l l' → l = l'
  | [], l', _, _, _, p => by rw [List.nil_perm.1 p]
  | a :: l, [], _, _, _, p => by cases List.perm_nil.1 p
  | a :: l, b :: l', hr, h1, h2, p => by
    have hb : ∀ x ∈ b :: l', RK x := fun x hx => hr x (p.mem_iff.2 hx)
    have h1' := List.pairwise_cons.1 h1
    have h2' := List.pairwise_cons.1 h2
    have e : a = b := by
      have ha : a ∈ b :: l' := p.mem_iff.1 (by simp)
      have hbm : b ∈ a :: l := p.mem_iff.2 (by simp)
      rcases List.mem_cons.1 ha with h | h
      · exact h
      · rcases List.mem_cons.1 hbm with h' | h'
        · exact h'.symm
        · have e1 := h2'.1 a h
          have e2 := h1'.1 b h'
          have := rah_tr (hr a (by simp)) (hb b (by simp)) (hr a (by simp)) e2 e1
          rw [rah_irr (hr a (by simp))] at this; cases this
    subst e
    rw [srt_uniq (fun x hx => hr x (by simp [hx])) h1'.2 h2'.2 ((List.perm_cons a).1 p)]
theorem srt_nodup {l : List V} (hr : ∀ a ∈ l, RK a) (h : Srt l) : l.Nodup := by
  induction l with
  | nil => exact List.nodup_nil
  | cons a l ih =>
    have h' := List.pairwise_cons.1 h
    refine List.nodup_cons.2 ⟨fun hm => ?_, ih (fun x hx => hr x (by simp [hx])) h'.2⟩
    have := h'.1 a hm
    rw [rah_irr (hr a (by simp))] at this; cases this
theorem tw_spec {α : Type} (p : α → Bool) : ∀ (l : List α), (∀ a ∈ l.takeWhile p, p a = true) ∧ (l.dropWhile p = [] ∨ ∃ b l', l.dropWhile p = b :: l' ∧ p b = false)
  | [] => by simp
  | a :: l => by
    cases h : p a with
    | true =>
      have ih := tw_spec p l
      rw [List.takeWhile_cons, h, List.dropWhile_cons, h]
      refine ⟨fun x hx => ?_, ih.2⟩
      rcases List.mem_cons.1 hx with rfl | hx
      · exact h
      · exact ih.1 x hx
    | false =>
      rw [List.takeWhile_cons, h, List.dropWhile_cons, h]
      exact ⟨by simp, .inr ⟨a, l, rfl, h⟩⟩
theorem srt_rest {l : List V} {k : V} (hr : ∀ a ∈ l, RK a) (hk : RK k) (h : Srt l) : ∀ b ∈ l.dropWhile (rah · k), rah b k = false := by
  intro b hb
  rcases (tw_spec (rah · k) l).2 with e | ⟨b0, l', e, h0⟩
  · rw [e] at hb; cases hb
  · have hsub : (l.dropWhile (rah · k)).Sublist l := List.dropWhile_sublist _
    have hs := h.sublist hsub
    rw [e] at hb hs
    rcases List.mem_cons.1 hb with rfl | hb
    · exact h0
    · have h1 := (List.pairwise_cons.1 hs).1 b hb
      cases h2 : rah b k with
      | false => rfl
      | true =>
        have hm0 : RK b0 := hr b0 (hsub.subset (by rw [e]; simp))
        have hm : RK b := hr b (hsub.subset (by rw [e]; simp [hb]))
        have := rah_tr hm0 hm hk h1 h2
        have h0' : rah b0 k = false := h0
        rw [h0'] at this; cases this
/-- A key put in its place. -/
theorem srt_put {l : List V} {k : V} {B : List V} (hr : ∀ a ∈ l, RK a) (hk : RK k) (h : Srt l) (hB : B.Sublist (l.dropWhile (rah · k))) (hn : ∀ b ∈ B, b ≠ k) : Srt (l.takeWhile (rah · k) ++ k :: B) := by
  have h0 := h
  unfold Srt at h ⊢
  rw [← List.takeWhile_append_dropWhile (p := (rah · k)) (l := l)] at h
  obtain ⟨h1, h2, h3⟩ := List.pairwise_append.1 h
  refine List.pairwise_append.2 ⟨h1, List.pairwise_cons.2 ⟨fun b hb => ?_, h2.sublist hB⟩, fun a ha b hb => ?_⟩
  · have hb' := hB.subset hb
    have h4 := srt_rest hr hk h0 b hb'
    cases h5 : rah k b with
    | true => rfl
    | false => exact absurd (rah_tot hk (hr b ((List.dropWhile_sublist _).subset hb')) h5 h4).symm (hn b hb)
  · rcases List.mem_cons.1 hb with rfl | hb
    · exact (tw_spec (rah · b) l).1 a ha
    · exact h3 a ha b (hB.subset hb)
theorem ins_rah {l : List V} {k : V} (hr : ∀ a ∈ l, RK a) (hk : RK k) : ins l k = l.takeWhile (rah · k) ++ k :: l.dropWhile (rah · k) := by
  have e : ∀ l : List V, (∀ a ∈ l, RK a) → l.takeWhile (ahd · k) = l.takeWhile (rah · k) := by
    intro l
    induction l with
    | nil => intro _; rfl
    | cons a l ih =>
      intro h
      simp only [List.takeWhile_cons, ahd_rah (h a (by simp)) hk]
      rw [ih fun x hx => h x (by simp [hx])]
  unfold ins spot
  rw [e l hr]
  have h1 : l.take (l.takeWhile (rah · k)).length = l.takeWhile (rah · k) := by
    have := List.takeWhile_append_dropWhile (p := (rah · k)) (l := l)
    generalize l.takeWhile (rah · k) = A at this
    generalize l.dropWhile (rah · k) = B at this
    rw [← this, List.take_left]
  have h2 : l.drop (l.takeWhile (rah · k)).length = l.dropWhile (rah · k) := by
    have := List.takeWhile_append_dropWhile (p := (rah · k)) (l := l)
    generalize l.takeWhile (rah · k) = A at this
    generalize l.dropWhile (rah · k) = B at this
    rw [← this, List.drop_left]
  rw [h1, h2]
theorem ins_perm {l : List V} {k : V} (hr : ∀ a ∈ l, RK a) (hk : RK k) : List.Perm (ins l k) (k :: l) := by
  rw [ins_rah hr hk]
  refine List.perm_middle.trans (List.Perm.cons k ?_)
  rw [List.takeWhile_append_dropWhile]
theorem ins_srt {l : List V} {k : V} (hr : ∀ a ∈ l, RK a) (hk : RK k) (h : Srt l) (hn : k ∉ l) : Srt (ins l k) := by
  rw [ins_rah hr hk]
  refine srt_put hr hk h (List.Sublist.refl _) fun b hb e => hn ?_
  subst e
  exact (List.dropWhile_sublist _).subset hb
theorem fold_ins : ∀ (p l : List V), (∀ a ∈ l ++ p, RK a) → Srt l → (l ++ p).Nodup → Srt (p.foldl ins l) ∧ List.Perm (p.foldl ins l) (l ++ p)
  | [], l, _, h, _ => ⟨h, by simp⟩
  | k :: p, l, hr, h, hn => by
    have hk : RK k := hr k (by simp)
    have hl : ∀ a ∈ l, RK a := fun a ha => hr a (by simp [ha])
    have hkl : k ∉ l := fun hm => (List.nodup_append.1 hn).2.2 k hm k (by simp) rfl
    have hp := ins_perm hl hk
    have hp2 : List.Perm (ins l k ++ p) (l ++ k :: p) := (hp.append_right p).trans (by
      refine List.Perm.trans ?_ (List.perm_middle).symm
      exact .refl _)
    obtain ⟨h1, h2⟩ := fold_ins p (ins l k) (fun a ha => hr a (hp2.mem_iff.1 ha)) (ins_srt hl hk h hkl) (hp2.symm.nodup hn)
    exact ⟨h1, h2.trans hp2⟩
/-- Whatever the order in which the keys came: they are told sorted. -/
theorem keys_told {p l : List V} (hr : ∀ a ∈ l, RK a) (h : Srt l) (hp : List.Perm p l) : p.foldl ins [] = l := by
  obtain ⟨h1, h2⟩ := fold_ins p [] (fun a ha => hr a (hp.mem_iff.1 (by simpa using ha))) List.Pairwise.nil (by simpa using hp.symm.nodup (srt_nodup hr h))
  rw [List.nil_append] at h2
  exact srt_uniq (fun a ha => hr a ((h2.trans hp).mem_iff.1 ha)) h1 h (h2.trans hp)

/-! ### Tables -/
def ne (k : V) (T : Tab) : Tab := T.filter fun p => decide (¬ p.1 = k)
theorem fold_laid (k v : V) : ∀ (T out : Tab), T.foldl (putStep k v) (out, true) = (out ++ ne k T, true)
  | [], out => by simp [ne]
  | p :: T, out => by
    rw [List.foldl_cons]
    by_cases he : p.1 = k
    · rw [ps_5 he, fold_laid k v T out]; simp [ne, he]
    · rw [ps_6 he, fold_laid k v T]; simp [ne, he]
theorem fold_open {k v : V} (hk : RK k) : ∀ (T out : Tab), (∀ p ∈ T, RK p.1) → T.foldl (putStep k v) (out, false) =
    match T.dropWhile (fun p => rah p.1 k) with
    | [] => (out ++ T, false)
    | B => (out ++ T.takeWhile (fun p => rah p.1 k) ++ (k, v) :: ne k B, true)
  | [], out, _ => by simp
  | p :: T, out, hr => by
    rw [List.foldl_cons]
    cases h : rah p.1 k with
    | true =>
      have he : ¬ p.1 = k := fun e => by rw [e, rah_irr hk] at h; cases h
      rw [ps_4 h he, fold_open hk T _ fun q hq => hr q (by simp [hq])]
      rw [List.dropWhile_cons, h, List.takeWhile_cons, h]
      simp only [if_true]
      split <;> rename_i e <;> simp [e]
    | false =>
      rw [List.dropWhile_cons, h, List.takeWhile_cons, h]
      simp only [Bool.false_eq_true, if_false]
      by_cases he : p.1 = k
      · rw [ps_1 h he, fold_laid]; simp [ne, he]
      · rw [ps_2 h he, fold_laid]; simp [ne, he]
theorem putL2_nil {T : Tab} {k v : V} (hv : v.k = 0) : putL2 T k v = ne k T := by
  unfold putL2
  rw [decide_eq_true hv, fold_laid]; rfl
theorem putL2_put {T : Tab} {k v : V} (hk : RK k) (hr : ∀ p ∈ T, RK p.1) (hv : ¬ v.k = 0) : putL2 T k v = T.takeWhile (fun p => rah p.1 k) ++ (k, v) :: ne k (T.dropWhile (fun p => rah p.1 k)) := by
  unfold putL2
  rw [decide_eq_false hv, fold_open hk T [] hr]
  have hT := List.takeWhile_append_dropWhile (p := fun p : V × V => rah p.1 k) (l := T)
  split
  · rename_i e
    rw [e, List.append_nil] at hT
    rw [e, hT]; simp [putEnd, ne]
  · simp [putEnd]
theorem tw_map (p : V → Bool) : ∀ T : Tab, (T.takeWhile fun x => p x.1).map (·.1) = (T.map (·.1)).takeWhile p ∧ (T.dropWhile fun x => p x.1).map (·.1) = (T.map (·.1)).dropWhile p
  | [] => by simp
  | a :: T => by
    have ih := tw_map p T
    simp only [List.takeWhile_cons, List.dropWhile_cons, List.map_cons]
    cases h : p a.1 <;> simp [ih]
/-- A table of the program beside one of the reference. -/
structure TRel (T T' : Tab) : Prop where
  perm : List.Perm T T'
  srt : Srt (T'.map (·.1))
  right : ∀ p ∈ T', RK p.1
theorem TRel.keyr {T T' : Tab} (h : TRel T T') : ∀ a ∈ T'.map (·.1), RK a := fun a ha => by
  obtain ⟨p, hp, rfl⟩ := List.mem_map.1 ha
  exact h.right p hp
theorem TRel.nodup' {T T' : Tab} (h : TRel T T') : (T'.map (·.1)).Nodup := srt_nodup h.keyr h.srt
theorem TRel.nodup {T T' : Tab} (h : TRel T T') : (T.map (·.1)).Nodup := (h.perm.map (·.1)).symm.nodup h.nodup'
theorem TRel.len {T T' : Tab} (h : TRel T T') : T.length = T'.length := h.perm.length_eq
theorem TRel.sub {T0 T T' : Tab} (h : TRel T T') (p : List.Perm T0 T) : TRel T0 T' := ⟨p.trans h.perm, h.srt, h.right⟩
theorem aget_mem {T : Tab} {k v : V} (hn : (T.map (·.1)).Nodup) : aget T k = some v ↔ (k, v) ∈ T := by
  induction T with
  | nil => simp [aget]
  | cons p T ih =>
    obtain ⟨a, b⟩ := p
    simp only [List.map_cons, List.nodup_cons] at hn
    unfold aget
    by_cases e : k = a
    · subst e
      rw [if_pos rfl]
      constructor
      · intro h; rw [Option.some.inj h]; simp
      · intro h
        rcases List.mem_cons.1 h with h | h
        · rw [(Prod.mk.inj h).2]
        · exact absurd (List.mem_map.2 ⟨_, h, rfl⟩) hn.1
    · rw [if_neg e, ih hn.2]
      constructor
      · intro h; simp [h]
      · intro h
        rcases List.mem_cons.1 h with h | h
        · exact absurd (Prod.mk.inj h).1 e
        · exact h
theorem aget_perm {T T' : Tab} (h : TRel T T') (k : V) : aget T k = aget T' k := by
  apply Option.ext
  intro v
  rw [aget_mem h.nodup, aget_mem h.nodup', h.perm.mem_iff]
theorem aget_cons (a b : V) (T : Tab) (x : V) : aget ((a, b) :: T) x = if x = a then some b else aget T x := rfl
theorem met_iff (T : Tab) (k : V) : met T k = (aget T k).isSome := by
  induction T with
  | nil => rfl
  | cons p T ih =>
    obtain ⟨a, b⟩ := p
    have : met ((a, b) :: T) k = (decide (a = k) || met T k) := by simp [met]
    rw [this, ih, aget_cons]
    by_cases e : k = a
    · simp [e]
    · rw [if_neg e]
      have : ¬ a = k := fun h => e h.symm
      simp [this]
theorem aput_ne {T : Tab} (k v : V) (hn : (T.map (·.1)).Nodup) : List.Perm (aput T k v) ((k, v) :: ne k T) := by
  induction T with
  | nil => exact .refl _
  | cons p T ih =>
    obtain ⟨a, b⟩ := p
    simp only [List.map_cons, List.nodup_cons] at hn
    unfold aput
    by_cases e : k = a
    · subst e
      rw [if_pos rfl]
      have : ne k ((k, b) :: T) = T := by
        simp only [ne, List.filter_cons]
        rw [if_neg (by simp)]
        refine List.filter_eq_self.2 fun q hq => ?_
        have : ¬ q.1 = k := fun e => hn.1 (e ▸ List.mem_map.2 ⟨q, hq, rfl⟩)
        simp [this]
      rw [this]
    · rw [if_neg e]
      have : ne k ((a, b) :: T) = (a, b) :: ne k T := by
        have : ¬ a = k := fun h => e h.symm
        simp [ne, this]
      rw [this]
      exact (List.Perm.cons _ (ih hn.2)).trans (.swap _ _ _)
theorem adel_ne {T : Tab} (k : V) (hn : (T.map (·.1)).Nodup) : adel T k = ne k T := by
  induction T with
  | nil => rfl
  | cons p T ih =>
    obtain ⟨a, b⟩ := p
    simp only [List.map_cons, List.nodup_cons] at hn
    unfold adel
    by_cases e : k = a
    · subst e
      rw [if_pos rfl]
      simp only [ne, List.filter_cons]
      rw [if_neg (by simp)]
      refine (List.filter_eq_self.2 fun q hq => ?_).symm
      have : ¬ q.1 = k := fun e => hn.1 (e ▸ List.mem_map.2 ⟨q, hq, rfl⟩)
      simp [this]
    · rw [if_neg e, ih hn.2]
      have : ¬ a = k := fun h => e h.symm
      simp [ne, this]
theorem ne_none {T : Tab} {k : V} (h : aget T k = none) : ne k T = T := by
  refine List.filter_eq_self.2 fun q hq => ?_
  have h1 := aget_none.1 h
  have : ¬ q.1 = k := fun e => h1 (e ▸ List.mem_map.2 ⟨q, hq, rfl⟩)
  simp [this]
theorem ne_len {T : Tab} {k v : V} (hn : (T.map (·.1)).Nodup) (h : aget T k = some v) : (ne k T).length + 1 = T.length := by
  induction T with
  | nil => simp [aget] at h
  | cons p T ih =>
    obtain ⟨a, b⟩ := p
    simp only [List.map_cons, List.nodup_cons] at hn
    by_cases e : k = a
    · subst e
      rw [← adel_ne k (by simpa using hn)]
      simp [adel]
    · unfold aget at h
      rw [if_neg e] at h
      have : ¬ a = k := fun h => e h.symm
      have h2 := ih hn.2 h
      simp only [ne, List.filter_cons, this, not_false_eq_true, decide_true, if_true, List.length_cons] at h2 ⊢
      omega
theorem TRel.del {T T' : Tab} (h : TRel T T') (k : V) : TRel (adel T k) (ne k T') := by
  refine ⟨?_, ?_, fun p hp => h.right p ((List.mem_filter.1 hp).1)⟩
  · rw [adel_ne k h.nodup]; exact h.perm.filter _
  · exact h.srt.sublist ((List.filter_sublist).map _)
theorem put_is {T' : Tab} {k v : V} (hk : RK k) (hr : ∀ p ∈ T', RK p.1) (hv : ¬ v.k = 0) : List.Perm (putL2 T' k v) ((k, v) :: ne k T') := by
  rw [putL2_put hk hr hv]
  refine List.perm_middle.trans (List.Perm.cons _ ?_)
  have hT := List.takeWhile_append_dropWhile (p := fun p : V × V => rah p.1 k) (l := T')
  have h1 : T'.takeWhile (fun p => rah p.1 k) = ne k (T'.takeWhile (fun p => rah p.1 k)) := by
    refine (List.filter_eq_self.2 fun q hq => ?_).symm
    have h2 : rah q.1 k = true := (tw_spec (fun p : V × V => rah p.1 k) T').1 q hq
    have : ¬ q.1 = k := fun e => (by rw [← e] at hk; have h3 := rah_irr hk; rw [← e] at h2; rw [h3] at h2; cases h2)
    simp [this]
  rw [h1]
  unfold ne
  rw [← List.filter_append, hT]
theorem TRel.put {T T' : Tab} (h : TRel T T') {k v : V} (hk : RK k) (hv : ¬ v.k = 0) : TRel (aput T k v) (putL2 T' k v) := by
  have hp := put_is hk h.right hv
  refine ⟨(aput_ne k v h.nodup).trans (((h.perm.filter _).cons _).trans hp.symm), ?_, fun p hm => ?_⟩
  · rw [putL2_put hk h.right hv, List.map_append, List.map_cons, (tw_map (rah · k) T').1]
    refine srt_put h.keyr hk h.srt ?_ ?_
    · rw [← (tw_map (rah · k) T').2]
      exact (List.filter_sublist).map _
    · intro b hb
      obtain ⟨q, hq, rfl⟩ := List.mem_map.1 hb
      have := (List.mem_filter.1 hq).2
      simpa using this
  · rcases List.mem_cons.1 (hp.mem_iff.1 hm) with rfl | h1
    · exact hk
    · exact h.right p ((List.mem_filter.1 h1).1)
theorem put_len {T' : Tab} {k v : V} (hk : RK k) (hr : ∀ p ∈ T', RK p.1) (hn : (T'.map (·.1)).Nodup) (hv : ¬ v.k = 0) : (putL2 T' k v).length = T'.length + (if (aget T' k).isSome then 0 else 1) := by
  rw [(put_is hk hr hv).length_eq, List.length_cons]
  cases h : aget T' k with
  | none => rw [ne_none h]; rfl
  | some u => have := ne_len hn h; simp; omega
end Go.Sl
