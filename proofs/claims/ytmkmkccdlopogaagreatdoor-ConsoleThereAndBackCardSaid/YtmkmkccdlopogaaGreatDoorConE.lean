import Derived.Test.YtmkmkccdlopogaaGreatDoorConD
set_option linter.unusedVariables false
set_option linter.unusedSimpArgs false
namespace Go.Proofs.YtmkmkccdlopogaaGreatDoor.Con
open Go

def remark : B := [10, 35, 32, 97, 32, 114, 101, 109, 97, 114, 107, 10, 32, 32, 32, 10]

/-- a text with more blanks and remarks: the law's own loop; none: it reads behind the end -/
def blk (a b : Bool) : Nat → B → Bool → Option B
  | 0, _, _ => none
  | _ + 1, [], _ => some []
  | n + 1, c :: t, q =>
    if q = true ∧ c = 92 then match t with
      | [] => none
      | d :: t1 => (blk a b n t1 q).map fun r => c :: d :: r
    else (blk a b n t (if c = 34 then !q else q)).map fun r => c :: ((if c = 32 ∧ (if c = 34 then !q else q) = false ∧ a = true then [32, 32] else []) ++ ((if c = 10 ∧ b = true then remark else []) ++ r))

/-- from here on, with enough rounds -/
def Blk (a b : Bool) (t : B) (q : Bool) (r : B) : Prop := ∀ n, t.length < n → blk a b n t q = some r

theorem Blk.nil (a b q : Bool) : Blk a b [] q [] := by
  intro n hn
  obtain ⟨n, rfl⟩ : ∃ m, n = m + 1 := ⟨n - 1, by omega⟩
  rfl

theorem Blk.plain {a b : Bool} {c : UInt8} {t r : B} {q : Bool} (h : Blk a b t q r) (h34 : c ≠ 34) (h92 : q = false ∨ c ≠ 92) (h32 : q = true ∨ c ≠ 32) (h10 : c ≠ 10) : Blk a b (c :: t) q (c :: r) := by
  intro n hn
  obtain ⟨n, rfl⟩ : ∃ m, n = m + 1 := ⟨n - 1, by omega⟩
  simp only [List.length_cons] at hn
  have e1 : ¬ (q = true ∧ c = 92) := by rcases h92 with h | h <;> simp [h]
  have e2 : ¬ (c = 32 ∧ q = false ∧ a = true) := by rcases h32 with h | h <;> simp [h]
  have e3 : ¬ (c = 10 ∧ b = true) := by simp [h10]
  simp only [blk, if_neg e1, if_neg h34, if_neg e2, if_neg e3, h n (by omega), Option.map_some, List.nil_append]

theorem Blk.pair {a b : Bool} {d : UInt8} {t r : B} (h : Blk a b t true r) : Blk a b (92 :: d :: t) true (92 :: d :: r) := by
  intro n hn
  obtain ⟨n, rfl⟩ : ∃ m, n = m + 1 := ⟨n - 1, by omega⟩
  simp only [List.length_cons] at hn
  simp only [blk, and_self, if_true, h n (by omega), Option.map_some]

theorem Blk.quo {a b : Bool} {t r : B} {q : Bool} (h : Blk a b t (!q) r) : Blk a b (34 :: t) q (34 :: r) := by
  intro n hn
  obtain ⟨n, rfl⟩ : ∃ m, n = m + 1 := ⟨n - 1, by omega⟩
  simp only [List.length_cons] at hn
  have e1 : ¬ (q = true ∧ (34 : UInt8) = 92) := by simp
  simp only [blk, if_neg e1, if_true, h n (by omega), Option.map_some]
  simp

theorem Blk.blank {a b : Bool} {t r : B} (h : Blk a b t false r) : Blk a b (32 :: t) false (List.replicate ((if a = true then 2 else 0) + 1) 32 ++ r) := by
  intro n hn
  obtain ⟨n, rfl⟩ : ∃ m, n = m + 1 := ⟨n - 1, by omega⟩
  simp only [List.length_cons] at hn
  simp only [blk, Bool.false_eq_true, false_and, if_false, show ((32 : UInt8) = 34) = False by decide, h n (by omega), Option.map_some, true_and, show ((32 : UInt8) = 10) = False by decide]
  cases a <;> simp [List.replicate]

theorem Blk.nl {a b : Bool} {t r : B} (h : Blk a b t false r) : Blk a b (10 :: t) false (10 :: ((if b = true then remark else []) ++ r)) := by
  intro n hn
  obtain ⟨n, rfl⟩ : ∃ m, n = m + 1 := ⟨n - 1, by omega⟩
  simp only [List.length_cons] at hn
  simp only [blk, Bool.false_eq_true, false_and, if_false, show ((10 : UInt8) = 34) = False by decide, h n (by omega), Option.map_some, true_and, show ((10 : UInt8) = 32) = False by decide, List.nil_append]

theorem Blk.word {a b : Bool} (x : B) {t r : B} (hx : ∀ c ∈ x, c ≠ 10 ∧ c ≠ 32 ∧ c ≠ 34 ∧ c ≠ 92) (h : Blk a b t false r) : Blk a b (x ++ t) false (x ++ r) := by
  induction x with
  | nil => exact h
  | cons c x ih =>
    have hc := hx c (by simp)
    exact (ih (fun d hd => hx d (by simp [hd]))).plain hc.2.2.1 (.inl rfl) (.inr hc.2.1) hc.1

theorem hexd_plain : ∀ n : Fin 16, hexd n.val ≠ 34 ∧ hexd n.val ≠ 92 ∧ hexd n.val ≠ 32 ∧ hexd n.val ≠ 10 := by decide

theorem Blk.body {a b : Bool} (s : B) {t r : B} (h : Blk a b t true r) : Blk a b (qbody s ++ t) true (qbody s ++ r) := by
  induction s with
  | nil => exact h
  | cons c s ih =>
    have hq : qbody (c :: s) = qb c ++ qbody s := by simp [qbody]
    rw [hq, List.append_assoc, List.append_assoc]
    have hc := c.toNat_lt
    unfold qb
    split
    · exact ih.pair
    · rename_i h1
      split
      · have e1 := hexd_plain ⟨c.toNat / 16, by omega⟩
        have e2 := hexd_plain ⟨c.toNat % 16, by omega⟩
        exact ((ih.plain e2.1 (.inr e2.2.1) (.inl rfl) e2.2.2.2).plain e1.1 (.inr e1.2.1) (.inl rfl) e1.2.2.2).pair
      · rename_i h2
        exact ih.plain (fun e => h1 (.inl e)) (.inr fun e => h1 (.inr e)) (.inl rfl) (by intro e; subst e; exact h2 (.inl (by decide)))

theorem Blk.quoted {a b : Bool} (s : B) {t r : B} (h : Blk a b t false r) : Blk a b (quote s ++ t) false (quote s ++ r) := by
  have := Blk.quo (q := false) (Blk.body s (Blk.quo (q := true) h))
  simpa [Con.quote] using this

/-- one field -/
theorem Blk.field {a b : Bool} (f : Field) (hf : OkG f) {t r : B} (h : Blk a b t false r) : Blk a b (ftext f ++ t) false (ftext f ++ r) := by
  unfold ftext
  cases hq : f.quoted with
  | true => exact h.quoted _
  | false =>
    rcases hf with hf | hf
    · simp [hq] at hf
    · exact Blk.word _ hf.2 h

theorem Blk.fields {a b : Bool} (fs : List Field) (hf : ∀ f ∈ fs, OkG f) {t r : B} (h : Blk a b t false r) :
    Blk a b (joinG 0 (fs.map ftext) ++ t) false (joinG (if a = true then 2 else 0) (fs.map ftext) ++ r) := by
  induction fs with
  | nil => simpa [joinG] using h
  | cons f fs ih =>
    have ih' := ih (fun f hf' => hf f (by simp [hf']))
    rw [List.map_cons, joinG_cons, joinG_cons]
    split
    · simpa using h.field f (hf f (by simp))
    · simp only [List.append_assoc, Nat.zero_add]
      refine Blk.field f (hf f (by simp)) ?_
      exact ih'.blank

theorem Blk.line {a b : Bool} {ts : List B} {w : B} {fs : List Field} (hs : Shown ts w fs) {t r : B} (h : Blk a b t false r) :
    Blk a b (joinG 0 ts ++ 10 :: t) false (joinG (if a = true then 2 else 0) ts ++ 10 :: ((if b = true then remark else []) ++ r)) := by
  rw [hs.texts]
  refine Blk.fields _ ?_ h.nl
  intro f hf
  rw [List.mem_cons] at hf
  rcases hf with rfl | hf
  · exact .inr ⟨hs.okw.1, hs.okw.2.2⟩
  · exact hs.ok f hf

def quietLines (b : Bool) : List B := if b = true then [[], [35, 32, 97, 32, 114, 101, 109, 97, 114, 107], [32, 32, 32]] else []

theorem quiet_lines (b : Bool) : Quiet (quietLines b) := by
  intro s i rest
  cases b with
  | false => exact ⟨i, rfl⟩
  | true =>
    refine ⟨i + 1 + 1 + 1, ?_⟩
    have e0 : cut [] = some [] := cut_blanks 0
    have e3 : cut [32, 32, 32] = some [] := cut_blanks 3
    simp only [quietLines, if_true, List.cons_append, List.nil_append, parseLines, List.head?_nil, List.head?_cons, e0, e3]
    simp

theorem Blk.show {a b : Bool} (ls : List (List B)) (h : ∀ l ∈ ls, ∃ w fs, Shown l w fs) :
    Blk a b (ls.flatMap fun l => joinG 0 l ++ [10]) false ((spread (if a = true then 2 else 0) (quietLines b) ls).flatMap fun l => l ++ [10]) := by
  induction ls with
  | nil => exact Blk.nil _ _ _
  | cons l ls ih =>
    obtain ⟨w, fs, hs⟩ := h l (by simp)
    have := Blk.line hs (ih fun l hl => h l (by simp [hl]))
    rw [spread_cons]
    simp only [List.flatMap_cons, List.flatMap_append, List.append_assoc, List.cons_append, List.nil_append]
    cases b with
    | false => simpa [quietLines] using this
    | true => simpa [quietLines, remark] using this

/-! ### how long it grows -/
theorem joinG_len (g : Nat) (ts : List B) (h : ∀ t ∈ ts, t ≠ []) : (joinG g ts).length ≤ (g + 1) * (joinG 0 ts).length := by
  induction ts with
  | nil => simp [joinG]
  | cons t ts ih =>
    have ih' := ih fun t ht => h t (by simp [ht])
    rw [joinG_cons, joinG_cons]
    split
    · simp only [List.append_nil]; exact Nat.le_mul_of_pos_left _ (by omega)
    · simp only [List.length_append, List.length_replicate]
      have : t.length ≤ (g + 1) * t.length := Nat.le_mul_of_pos_left _ (by omega)
      rw [Nat.mul_add, Nat.mul_add]
      omega

/-- every shown line has at least four bytes -/
theorem shown_len (s : Script) (hs : WF s) : ∀ l ∈ showLines s, 4 ≤ (joinG 0 l).length := by
  have key : ∀ (w : B) (l : List B), 4 ≤ w.length → 4 ≤ (joinG 0 (w :: l)).length := by
    intro w l h; rw [joinG_cons]; simp only [List.length_append]; omega
  intro l hl
  simp only [showLines, List.mem_append, List.mem_flatMap, List.mem_cons, List.not_mem_nil, or_false] at hl
  rcases hl with (((rfl | rfl | rfl | rfl | rfl) | hl) | hl) | hl
  · exact key _ _ (by decide)
  · exact key _ _ (by decide)
  · exact key _ _ (by decide)
  · exact key _ _ (by decide)
  · exact key _ _ (by decide)
  · split at hl
    · simp only [List.mem_singleton] at hl; subst hl; exact key _ _ (by decide)
    · simp at hl
  · split at hl
    · simp at hl
    · simp only [List.mem_singleton] at hl; subst hl; exact key _ _ (by decide)
  · obtain ⟨acts, hacts, hl⟩ := hl
    rcases hl with rfl | hl
    · exact key _ _ (by decide)
    · simp only [actLines, List.mem_map, List.mem_filter] at hl
      obtain ⟨a, ⟨ha, _⟩, rfl⟩ := hl
      obtain ⟨k, w, args, fs, hv, _, h⟩ := (hs.ac acts hacts a ha).shown
      rw [h.texts, List.map_cons, plain_field]
      refine key _ _ ?_
      have hk := verbs_cases hv
      have : k = 0 ∨ k = 1 ∨ k = 2 ∨ k = 3 ∨ k = 4 ∨ k = 5 ∨ k = 6 ∨ k = 7 ∨ k = 8 ∨ k = 9 ∨ k = 10 := by omega
      clear h hk
      rcases this with rfl | rfl | rfl | rfl | rfl | rfl | rfl | rfl | rfl | rfl | rfl <;>
        (simp only [verbs, List.getElem?_cons_zero, List.getElem?_cons_succ, Option.some.injEq, Prod.mk.injEq] at hv
         obtain ⟨rfl, _⟩ := hv
         decide)

theorem texts_ne (s : Script) (hs : WF s) : ∀ l ∈ showLines s, ∀ t ∈ l, t ≠ [] := by
  intro l hl t ht
  obtain ⟨w, fs, h⟩ := showLines_shown s hs l hl
  rw [h.texts, List.mem_map] at ht
  obtain ⟨f, hf, rfl⟩ := ht
  rcases h.okF f hf with hq | hq
  · simp [ftext, hq, quote]
  · unfold ftext; split
    · simp [quote]
    · exact hq.1

theorem spread_len (g : Nat) (b : Bool) (hg : g ≤ 2) (ls : List (List B)) (h4 : ∀ l ∈ ls, 4 ≤ (joinG 0 l).length) (hne : ∀ l ∈ ls, ∀ t ∈ l, t ≠ []) :
    ((spread g (quietLines b) ls).flatMap fun l => l ++ [10]).length ≤ 8 * (ls.flatMap fun l => joinG 0 l ++ [10]).length := by
  induction ls with
  | nil => simp [spread]
  | cons l ls ih =>
    have ih' := ih (fun l hl => h4 l (by simp [hl])) (fun l hl => hne l (by simp [hl]))
    have h1 := h4 l (by simp)
    have h2 := joinG_len g l (hne l (by simp))
    have h3 : (g + 1) * (joinG 0 l).length ≤ 3 * (joinG 0 l).length := Nat.mul_le_mul_right _ (by omega)
    rw [spread_cons]
    simp only [List.flatMap_cons, List.flatMap_append, List.length_append, List.length_cons, List.length_nil]
    have hq : (List.flatMap (fun l : B => l ++ [10]) (quietLines b)).length ≤ 16 := by cases b <;> decide
    omega

/-- ████ remarks, empty lines and more blanks mean nothing ████ -/
theorem parse_blanks (a b : Bool) (s : Script) (hs : WF s) (h : (showS s).length ≤ 131072) :
    ∃ r, Blk a b (showS s) false r ∧ r.length ≤ 1048576 ∧ parse r = (s, 0, 0) := by
  have hb := Blk.show (a := a) (b := b) (showLines s) (showLines_shown s hs)
  have e : showS s = (showLines s).flatMap fun l => joinG 0 l ++ [10] := by
    unfold showS
    congr 1
    funext l
    rw [joinG_zero]
  have hg : (if a = true then 2 else 0) ≤ 2 := by split <;> omega
  have hlen := spread_len (if a = true then 2 else 0) b hg (showLines s) (shown_len s hs) (texts_ne s hs)
  rw [← e] at hb hlen
  refine ⟨_, hb, by omega, ?_⟩
  unfold parse
  rw [if_neg (by omega)]
  have hq : ∀ l ∈ quietLines b, ∀ c ∈ l, c ≠ 10 := by cases b <;> decide
  rw [linesOf_lines _ (spread_nl _ hq _ (showLines_nl s hs _))]
  exact parseLines_reads (reads_show _ (quiet_lines b) s hs)
end Go.Proofs.YtmkmkccdlopogaaGreatDoor.Con
