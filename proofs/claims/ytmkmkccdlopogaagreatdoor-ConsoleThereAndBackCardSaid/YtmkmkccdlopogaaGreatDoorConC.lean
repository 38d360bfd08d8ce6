import Derived.Test.YtmkmkccdlopogaaGreatDoorConB
set_option linter.unusedVariables false
set_option linter.unusedSimpArgs false
namespace Go.Proofs.YtmkmkccdlopogaaGreatDoor.Con
open Go

/-! ### lines -/
theorem splitNl_line (l t : B) (h : ∀ c ∈ l, c ≠ 10) : splitNl (l ++ 10 :: t) = l :: splitNl t := by
  induction l with
  | nil => simp [splitNl]
  | cons c l ih =>
    have hc := h c (by simp)
    simp only [List.cons_append, splitNl, hc, if_false]
    rw [ih (fun d hd => h d (by simp [hd]))]

theorem linesOf_lines (ls : List B) (h : ∀ l ∈ ls, ∀ c ∈ l, c ≠ 10) : linesOf (ls.flatMap fun l => l ++ [10]) = ls := by
  have key : splitNl (ls.flatMap fun l => l ++ [10]) = ls ++ [[]] := by
    induction ls with
    | nil => rfl
    | cons l ls ih =>
      simp only [List.flatMap_cons, List.append_assoc, List.cons_append, List.nil_append]
      rw [splitNl_line _ _ (h l (by simp)), ih (fun l hl => h l (by simp [hl]))]
  unfold linesOf
  rw [key]
  simp

/-- these lines make s1 of s -/
def Reads (ls : List B) (s s1 : Script) : Prop := ∀ (i : Nat) (rest : List B), ∃ j, parseLines (ls ++ rest) i s = parseLines rest j s1

theorem Reads.nil (s : Script) : Reads [] s s := fun i _ => ⟨i, rfl⟩
theorem Reads.app {l1 l2 : List B} {s s1 s2 : Script} (h1 : Reads l1 s s1) (h2 : Reads l2 s1 s2) : Reads (l1 ++ l2) s s2 := by
  intro i rest
  obtain ⟨j, e1⟩ := h1 i (l2 ++ rest)
  obtain ⟨k, e2⟩ := h2 j rest
  exact ⟨k, by rw [List.append_assoc, e1, e2]⟩

/-- a shown line: its texts, and the fields that they are -/
structure Shown (ts : List B) (w : B) (fs : List Field) : Prop where
  texts : ts = (⟨w, false⟩ :: fs : List Field).map ftext
  okw : w ≠ [] ∧ w.head? ≠ some 35 ∧ (∀ c ∈ w, c ≠ 10 ∧ c ≠ 32 ∧ c ≠ 34 ∧ c ≠ 92)
  ok : ∀ f ∈ fs, f.quoted = true ∨ (f.text ≠ [] ∧ ∀ c ∈ f.text, c ≠ 10 ∧ c ≠ 32 ∧ c ≠ 34 ∧ c ≠ 92)

theorem Shown.okF {ts : List B} {w : B} {fs : List Field} (h : Shown ts w fs) : ∀ f ∈ (⟨w, false⟩ :: fs : List Field), OkF f := by
  intro f hf
  rw [List.mem_cons] at hf
  rcases hf with rfl | hf
  · exact .inr ⟨h.okw.1, fun c hc => ⟨(h.okw.2.2 c hc).2.1, (h.okw.2.2 c hc).2.2.1⟩⟩
  · rcases h.ok f hf with h1 | h1
    · exact .inl h1
    · exact .inr ⟨h1.1, fun c hc => ⟨(h1.2 c hc).2.1, (h1.2 c hc).2.2.1⟩⟩

theorem Shown.reads {ts : List B} {w : B} {fs : List Field} (h : Shown ts w fs) (g : Nat) {s s1 : Script} (hl : lineS s ⟨w, false⟩ fs = .ok s1) : Reads [joinG g ts] s s1 := by
  intro i rest
  refine ⟨i + 1, ?_⟩
  have hc := cut_lay g _ h.okF
  rw [← h.texts] at hc
  have hh : (joinG g ts).head? ≠ some 35 := by
    rw [h.texts, List.map_cons, joinG_cons]
    simp only [ftext, Bool.false_eq_true, if_false]
    obtain ⟨h1, h2, _⟩ := h.okw
    cases w with
    | nil => exact absurd rfl h1
    | cons c w => simpa using h2
  simp only [List.cons_append, List.nil_append, parseLines]
  rw [if_neg hh, hc]
  simp only [hl]

theorem qb_nl (c : UInt8) : ∀ d ∈ qb c, d ≠ 10 := by
  intro d hd e
  subst e
  unfold qb at hd
  have hx : ∀ n : Fin 16, hexd n.val ≠ 10 := by decide
  have hc := c.toNat_lt
  split at hd
  · rename_i h
    simp only [List.mem_cons, List.not_mem_nil, or_false] at hd
    rcases hd with hd | hd
    · exact absurd hd (by decide)
    · subst hd; exact absurd h (by decide)
  · split at hd
    · simp only [List.mem_cons, List.not_mem_nil, or_false] at hd
      rcases hd with hd | hd | hd | hd
      · exact absurd hd (by decide)
      · exact absurd hd (by decide)
      · exact hx ⟨c.toNat / 16, by omega⟩ hd.symm
      · exact hx ⟨c.toNat % 16, by omega⟩ hd.symm
    · rename_i h
      simp only [List.mem_singleton] at hd
      subst hd
      exact h (.inl (by decide))

theorem quote_nl (s : B) : ∀ d ∈ quote s, d ≠ 10 := by
  intro d hd
  simp only [quote, qbody, List.cons_append, List.mem_cons, List.mem_append, List.mem_flatMap, List.not_mem_nil, or_false] at hd
  rcases hd with rfl | ⟨c, _, hd⟩ | rfl
  · decide
  · exact qb_nl c d hd
  · decide

theorem joinG_nl (g : Nat) (ts : List B) (h : ∀ t ∈ ts, ∀ c ∈ t, c ≠ 10) : ∀ c ∈ joinG g ts, c ≠ 10 := by
  induction ts with
  | nil => simp [joinG]
  | cons t ts ih =>
    intro c hc
    rw [joinG_cons, List.mem_append] at hc
    rcases hc with hc | hc
    · exact h t (by simp) c hc
    · split at hc
      · simp at hc
      · rw [List.mem_append, List.mem_replicate] at hc
        rcases hc with ⟨_, rfl⟩ | hc
        · decide
        · exact ih (fun t ht => h t (by simp [ht])) c hc

theorem Shown.nl {ts : List B} {w : B} {fs : List Field} (h : Shown ts w fs) (g : Nat) : ∀ c ∈ joinG g ts, c ≠ 10 := by
  refine joinG_nl g ts ?_
  rw [h.texts]
  intro t ht c hc
  rw [List.mem_map] at ht
  obtain ⟨f, hf, rfl⟩ := ht
  rw [List.mem_cons] at hf
  rcases hf with rfl | hf
  · exact (h.okw.2.2 c (by simpa [ftext] using hc)).1
  · unfold ftext at hc
    cases hq : f.quoted with
    | true => rw [hq] at hc; exact quote_nl _ c (by simpa using hc)
    | false =>
      rw [hq] at hc
      rcases h.ok f hf with h1 | h1
      · simp [hq] at h1
      · exact (h1.2 c (by simpa using hc)).1

/-! ### scripts that were read -/
/-- an act as the lines make it -/
def WAct (a : Act) : Prop := ∃ (k : Nat) (w args : B) (rest : List Field), verbs[k]? = some (w, args) ∧ actOf (k + 1) args rest = some a

structure WF (s : Script) : Prop where
  n1 : Small s.nodes
  n2 : Small s.replicas
  n3 : Small s.block
  n4 : Small s.room
  n5 : Small s.rounds
  ch : ∀ n ∈ s.choices, Small n
  ac : ∀ l ∈ s.acts, ∀ a ∈ l, WAct a

theorem small_zero : Small 0 := by constructor <;> omega
theorem WF.zero : WF Script.zero := ⟨small_zero, small_zero, small_zero, small_zero, small_zero, by simp [Script.zero], by simp [Script.zero]⟩

theorem findVerb_at (l : List (B × B)) : ∀ (k j : Nat) (w args : B), findVerb k l w = some (j, args) → ∃ i, j = k + i ∧ l[i]? = some (w, args) := by
  induction l with
  | nil => intro k j w args h; simp [findVerb] at h
  | cons x l ih =>
    intro k j w args h
    obtain ⟨v, a⟩ := x
    simp only [findVerb] at h
    split at h
    · rename_i e
      simp only [Option.some.injEq, Prod.mk.injEq] at h
      exact ⟨0, by omega, by simp [h.2, e]⟩
    · obtain ⟨i, h1, h2⟩ := ih _ _ _ _ h
      exact ⟨i + 1, by omega, by simpa using h2⟩

theorem addAct_mem (l : List (List Act)) (a : Act) : ∀ m ∈ addAct l a, ∀ x ∈ m, x = a ∨ ∃ m' ∈ l, x ∈ m' := by
  induction l with
  | nil => simp [addAct]
  | cons y l ih =>
    cases l with
    | nil =>
      intro m hm x hx
      simp only [addAct, List.mem_singleton] at hm
      subst hm
      rw [List.mem_append, List.mem_singleton] at hx
      rcases hx with hx | hx
      · exact .inr ⟨y, by simp, hx⟩
      · exact .inl hx
    | cons z l =>
      intro m hm x hx
      simp only [addAct, List.mem_cons] at hm
      rcases hm with rfl | hm
      · exact .inr ⟨m, by simp, hx⟩
      · rcases ih m (by simpa using hm) x hx with h | ⟨m', h1, h2⟩
        · exact .inl h
        · exact .inr ⟨m', by simp only [List.mem_cons] at h1 ⊢; exact .inr h1, h2⟩

theorem nums_small : ∀ (l : List Field) (r : List Int), nums l = some r → ∀ n ∈ r, Small n
  | [], r, h, n, hn => by simp only [nums, Option.some.injEq] at h; subst h; simp at hn
  | f :: l, r, h, n, hn => by
    simp only [nums] at h
    cases hf : number f with
    | none => simp [hf] at h
    | some m =>
      cases hr : nums l with
      | none => simp [hf, hr] at h
      | some r' =>
        simp only [hf, hr, Option.some.injEq] at h
        subst h
        rw [List.mem_cons] at hn
        rcases hn with rfl | hn
        · exact number_small hf
        · exact nums_small l r' hr n hn

theorem setNum_WF {s : Script} {w : B} {n : Int} (hs : WF s) (hn : Small n) : WF ((setNum s w n).getD s) := by
  unfold setNum
  split
  · exact ⟨hn, hs.n2, hs.n3, hs.n4, hs.n5, hs.ch, hs.ac⟩
  · split
    · exact ⟨hs.n1, hn, hs.n3, hs.n4, hs.n5, hs.ch, hs.ac⟩
    · split
      · exact ⟨hs.n1, hs.n2, hn, hs.n4, hs.n5, hs.ch, hs.ac⟩
      · split
        · exact ⟨hs.n1, hs.n2, hs.n3, hn, hs.n5, hs.ch, hs.ac⟩
        · split
          · exact ⟨hs.n1, hs.n2, hs.n3, hs.n4, hn, hs.ch, hs.ac⟩
          · exact hs

theorem lineS_WF {s s1 : Script} {w : Field} {rest : List Field} (hs : WF s) (h : lineS s w rest = .ok s1) : WF s1 := by
  unfold lineS at h
  split at h
  · simp at h
  split at h
  · split at h
    · rename_i f
      split at h
      · rename_i n hn
        simp only [Except.ok.injEq] at h
        subst h
        exact setNum_WF hs (number_small hn)
      · simp at h
    · simp at h
  split at h
  · split at h
    · simp only [Except.ok.injEq] at h; subst h; exact ⟨hs.n1, hs.n2, hs.n3, hs.n4, hs.n5, hs.ch, hs.ac⟩
    · simp at h
  split at h
  · split at h
    · simp only [Except.ok.injEq] at h; subst h
      refine ⟨hs.n1, hs.n2, hs.n3, hs.n4, hs.n5, hs.ch, ?_⟩
      intro l hl a ha
      simp only [List.mem_append, List.mem_singleton] at hl
      rcases hl with hl | rfl
      · exact hs.ac l hl a ha
      · simp at ha
    · simp at h
  split at h
  · split at h
    · rename_i l hl
      simp only [Except.ok.injEq] at h; subst h
      refine ⟨hs.n1, hs.n2, hs.n3, hs.n4, hs.n5, ?_, hs.ac⟩
      intro n hn
      simp only [List.mem_append] at hn
      rcases hn with hn | hn
      · exact hs.ch n hn
      · exact nums_small _ _ hl n hn
    · simp at h
  split at h
  · simp at h
  · rename_i k args hv
    split at h
    · simp at h
    · rename_i a ha
      split at h
      · simp at h
      · simp only [Except.ok.injEq] at h; subst h
        refine ⟨hs.n1, hs.n2, hs.n3, hs.n4, hs.n5, hs.ch, ?_⟩
        obtain ⟨i, hi, hv'⟩ := findVerb_at _ _ _ _ _ hv
        have hw : WAct a := ⟨i, _, args, rest, hv', by rw [show i + 1 = k by omega]; exact ha⟩
        intro l hl x hx
        rcases addAct_mem _ _ l hl x hx with rfl | ⟨m, h1, h2⟩
        · exact hw
        · exact hs.ac m h1 x h2

theorem lineS_code {s : Script} {w : Field} {rest : List Field} {e : Int} (h : lineS s w rest = .error e) : e ≠ 0 := by
  unfold lineS at h
  repeat' split at h
  all_goals simp at h
  all_goals subst h
  all_goals decide

theorem parseLines_WF : ∀ (ls : List B) (i : Nat) (s s1 : Script) (l : Nat), WF s → parseLines ls i s = (s1, 0, l) → WF s1
  | [], i, s, s1, l, hs, h => by simp only [parseLines, Prod.mk.injEq] at h; rw [← h.1]; exact hs
  | x :: ls, i, s, s1, l, hs, h => by
    simp only [parseLines] at h
    split at h
    · exact parseLines_WF ls _ s s1 l hs h
    · split at h
      · simp at h
      · exact parseLines_WF ls _ s s1 l hs h
      · split at h
        · rename_i e he
          simp only [Prod.mk.injEq] at h
          exact absurd h.2.1 (lineS_code he)
        · rename_i s2 h2
          exact parseLines_WF ls _ s2 s1 l (lineS_WF hs h2) h

theorem parse_WF {t : B} {s : Script} {l : Nat} (h : parse t = (s, 0, l)) : WF s := by
  unfold parse at h
  split at h
  · simp at h
  · exact parseLines_WF _ _ _ _ _ WF.zero h
end Go.Proofs.YtmkmkccdlopogaaGreatDoor.Con
