import Derived.Test.YtmkmkccdlopogaaGreatDoorConC
set_option linter.unusedVariables false
set_option linter.unusedSimpArgs false
namespace Go.Proofs.YtmkmkccdlopogaaGreatDoor.Con
open Go

theorem verbs_cases {k : Nat} {w args : B} (h : verbs[k]? = some (w, args)) : k < 11 := by
  rcases Nat.lt_or_ge k 11 with h1 | h1
  · exact h1
  · rw [List.getElem?_eq_none (by simpa [verbs] using h1)] at h; simp at h

theorem verb_words (k : Nat) (hk : k < 11) : ∃ w args, verbs[k]? = some (w, args) ∧ (w ≠ [] ∧ w.head? ≠ some 35 ∧ (∀ c ∈ w, c ≠ 10 ∧ c ≠ 32 ∧ c ≠ 34 ∧ c ≠ 92)) ∧ w ≠ wNodes ∧ w ≠ wReplicas ∧ w ≠ wBlock ∧ w ≠ wRoom ∧ w ≠ wRounds ∧ w ≠ wFlips ∧ w ≠ wClient ∧ w ≠ wChoose ∧ findVerb 1 verbs w = some (k + 1, args) := by
  have : k = 0 ∨ k = 1 ∨ k = 2 ∨ k = 3 ∨ k = 4 ∨ k = 5 ∨ k = 6 ∨ k = 7 ∨ k = 8 ∨ k = 9 ∨ k = 10 := by omega
  rcases this with rfl | rfl | rfl | rfl | rfl | rfl | rfl | rfl | rfl | rfl | rfl <;> exact ⟨_, _, rfl, by decide⟩

theorem lineS_verb {k : Nat} {w args : B} {fs : List Field} {a : Act} {s : Script} (h : verbs[k]? = some (w, args)) (ha : actOf (k + 1) args fs = some a) (hs : s.acts ≠ []) :
    lineS s ⟨w, false⟩ fs = .ok { s with acts := addAct s.acts a } := by
  obtain ⟨w', args', h', _, n1, n2, n3, n4, n5, n6, n7, n8, hv⟩ := verb_words k (verbs_cases h)
  rw [h] at h'
  simp only [Option.some.injEq, Prod.mk.injEq] at h'
  obtain ⟨rfl, rfl⟩ := h'
  unfold lineS
  have e : (setNum s w 0).isSome = false := by simp [setNum, n1, n2, n3, n4, n5]
  simp only [Bool.false_eq_true, if_false, e, n6, n7, n8, hv, ha, hs]

/-- the fields that an act's texts are -/
theorem quote_field (x : B) : ftext ⟨x, true⟩ = quote x := by simp [ftext]
theorem plain_field (x : B) : ftext ⟨x, false⟩ = x := by simp [ftext]

theorem WAct.kind {a : Act} {k : Nat} {args : B} {rest : List Field} (h : actOf (k + 1) args rest = some a) : a.kind = (k : Int) + 1 := by
  have key : ∀ (args : B) (rest : List Field) (b a : Act), argsOf args rest b = some a → a.kind = b.kind := by
    intro args
    induction args with
    | nil => intro rest b a h; cases rest <;> simp [argsOf] at h; rw [h]
    | cons c cs ih =>
      intro rest b a h
      cases rest with
      | nil => simp [argsOf] at h
      | cons f fs =>
        simp only [argsOf] at h
        split at h
        · have := ih _ _ _ h; exact this
        · split at h
          · have := ih _ _ _ h; exact this
          · split at h
            · have := ih _ _ _ h; exact this
            · split at h
              · have := ih _ _ _ h; exact this
              · simp at h
  unfold actOf at h
  split at h
  · rename_i hk
    unfold submitOf at h
    split at h
    · split at h
      · simp only [Option.some.injEq] at h; subst h; simp [Act.zero]; omega
      · simp at h
    · simp at h
  · have := key _ _ _ _ h
    simpa [Act.zero] using this

def OkG (f : Field) : Prop := f.quoted = true ∨ (f.text ≠ [] ∧ ∀ c ∈ f.text, c ≠ 10 ∧ c ≠ 32 ∧ c ≠ 34 ∧ c ≠ 92)
theorem okG_quote (x : B) : OkG ⟨x, true⟩ := .inl rfl
theorem okG_itoa (n : Int) : OkG ⟨Lib.itoa n, false⟩ := by
  obtain ⟨h1, h2⟩ := itoa_plain n
  refine .inr ⟨?_, h2⟩
  rcases h1 with h1 | h1
  · simp at h1
  · exact h1.1

theorem WAct.shown {a : Act} (h : WAct a) : ∃ (k : Nat) (w args : B) (fs : List Field), verbs[k]? = some (w, args) ∧ actOf (k + 1) args fs = some a ∧ Shown (actTexts a) w fs := by
  obtain ⟨k, w, args, rest, hv, ha⟩ := h
  have hk := WAct.kind ha
  obtain ⟨w', args', h', hw, _⟩ := verb_words k (verbs_cases hv)
  rw [hv] at h'
  simp only [Option.some.injEq, Prod.mk.injEq] at h'
  obtain ⟨rfl, rfl⟩ := h'
  refine ⟨k, w, args, ?_⟩
  have hlt := verbs_cases hv
  have e0 : a.kind.toNat - 1 = k := by omega
  have hget : verbs.getD k ([], []) = (w, args) := by simp [List.getD, hv]
  have base : actTexts a = w :: argTexts a args ++ (if a.kind = 10 then [quote a.path, quote a.job.output, Lib.itoa a.job.parts, Lib.itoa a.job.split, Lib.itoa a.job.spill, quote a.job.program] ++ a.job.inputs.map quote else []) := by
    simp only [actTexts, e0, hget]
  -- the four shapes of what stands behind a word
  have shapes : (k = 9 ∧ args = []) ∨ (k ≠ 9 ∧ (args = [112] ∨ args = [112, 100] ∨ args = [112, 113] ∨ args = [112, 110])) := by
    have : k = 0 ∨ k = 1 ∨ k = 2 ∨ k = 3 ∨ k = 4 ∨ k = 5 ∨ k = 6 ∨ k = 7 ∨ k = 8 ∨ k = 9 ∨ k = 10 := by omega
    clear hget base hk e0 hw ha
    rcases this with rfl | rfl | rfl | rfl | rfl | rfl | rfl | rfl | rfl | rfl | rfl <;>
      (simp only [verbs, List.getElem?_cons_zero, List.getElem?_cons_succ, Option.some.injEq, Prod.mk.injEq] at hv
       obtain ⟨_, rfl⟩ := hv
       decide)
  have fin : ∀ fs : List Field, actTexts a = w :: fs.map ftext → (∀ f ∈ fs, OkG f) → Shown (actTexts a) w fs := by
    intro fs e hok
    exact ⟨by rw [e]; simp [plain_field], hw, hok⟩
  rcases shapes with ⟨rfl, rfl⟩ | ⟨hk9, hargs⟩
  · -- submit
    have hk10 : a.kind = 10 := by omega
    simp only [actOf, if_true] at ha
    unfold submitOf at ha
    split at ha
    · rename_i p o x y z g l
      split at ha
      · rename_i n1 n2 n3 h1 h2 h3
        simp only [Option.some.injEq] at ha
        refine ⟨⟨p.text, true⟩ :: ⟨o.text, true⟩ :: ⟨Lib.itoa n1, false⟩ :: ⟨Lib.itoa n2, false⟩ :: ⟨Lib.itoa n3, false⟩ :: ⟨g.text, true⟩ :: l.map (fun f => ⟨f.text, true⟩), hv, ?_, ?_⟩
        · simp only [actOf, if_true, submitOf, number_itoa _ (number_small h1), number_itoa _ (number_small h2), number_itoa _ (number_small h3), List.map_map, Option.some.injEq]
          rw [← ha]
          congr 2
        · refine fin _ ?_ ?_
          · rw [base, if_pos hk10, ← ha]
            simp [argTexts, quote_field, plain_field, List.map_map, Function.comp_def]
          · intro f hf
            simp only [List.mem_cons, List.mem_map] at hf
            rcases hf with rfl | rfl | rfl | rfl | rfl | rfl | ⟨f', _, rfl⟩
            · exact okG_quote _
            · exact okG_quote _
            · exact okG_itoa _
            · exact okG_itoa _
            · exact okG_itoa _
            · exact okG_quote _
            · exact okG_quote _
      · simp at ha
    · simp at ha
  · have hk10 : a.kind ≠ 10 := by omega
    have hk9' : ¬ k + 1 = 10 := by omega
    rw [if_neg hk10, List.append_nil] at base
    simp only [actOf, hk9', if_false] at ha ⊢
    rcases hargs with rfl | rfl | rfl | rfl
    · match rest, ha with
      | [f1], ha =>
        simp [argsOf] at ha
        refine ⟨[⟨f1.text, true⟩], hv, by simp [argsOf, ha], fin _ ?_ ?_⟩
        · rw [base, ← ha]; simp [argTexts, quote_field]
        · intro f hf; simp only [List.mem_singleton] at hf; subst hf; exact okG_quote _
      | [], ha => simp [argsOf] at ha
      | _ :: _ :: _, ha => simp [argsOf] at ha
    · match rest, ha with
      | [f1, f2], ha =>
        simp [argsOf] at ha
        refine ⟨[⟨f1.text, true⟩, ⟨f2.text, true⟩], hv, by simp [argsOf, ha], fin _ ?_ ?_⟩
        · rw [base, ← ha]; simp [argTexts, quote_field]
        · intro f hf; simp only [List.mem_cons, List.not_mem_nil, or_false] at hf; rcases hf with rfl | rfl <;> exact okG_quote _
      | [], ha => simp [argsOf] at ha
      | [_], ha => simp [argsOf] at ha
      | _ :: _ :: _ :: _, ha => simp [argsOf] at ha
    · match rest, ha with
      | [f1, f2], ha =>
        simp [argsOf] at ha
        refine ⟨[⟨f1.text, true⟩, ⟨f2.text, true⟩], hv, by simp [argsOf, ha], fin _ ?_ ?_⟩
        · rw [base, ← ha]; simp [argTexts, quote_field]
        · intro f hf; simp only [List.mem_cons, List.not_mem_nil, or_false] at hf; rcases hf with rfl | rfl <;> exact okG_quote _
      | [], ha => simp [argsOf] at ha
      | [_], ha => simp [argsOf] at ha
      | _ :: _ :: _ :: _, ha => simp [argsOf] at ha
    · match rest, ha with
      | [f1, f2], ha =>
        cases hn : number f2 with
        | none => simp [argsOf, hn] at ha
        | some n =>
          simp [argsOf, hn] at ha
          refine ⟨[⟨f1.text, true⟩, ⟨Lib.itoa n, false⟩], hv, by simp [argsOf, ha, number_itoa _ (number_small hn)], fin _ ?_ ?_⟩
          · rw [base, ← ha]; simp [argTexts, quote_field, plain_field]
          · intro f hf; simp only [List.mem_cons, List.not_mem_nil, or_false] at hf; rcases hf with rfl | rfl
            · exact okG_quote _
            · exact okG_itoa _
      | [], ha => simp [argsOf] at ha
      | [_], ha => simp [argsOf] at ha
      | _ :: f2 :: _ :: _, ha => cases hn : number f2 <;> simp [argsOf, hn] at ha

/-! ### a shown script is read back -/
/-- the lines of a text with wider gaps -/
def gapped (g : Nat) (ls : List (List B)) : List B := ls.map (joinG g)

/-- lines that say nothing may stand between -/
def Quiet (q : List B) : Prop := ∀ s, Reads q s s
def spread (g : Nat) (q : List B) (ls : List (List B)) : List B := ls.flatMap fun l => joinG g l :: q

theorem Shown.spread {ts : List B} {w : B} {fs : List Field} (h : Shown ts w fs) (g : Nat) {q : List B} (hq : Quiet q) {s s1 : Script} (hl : lineS s ⟨w, false⟩ fs = .ok s1) : Reads (joinG g ts :: q) s s1 := by
  have := (h.reads g hl).app (hq s1)
  simpa using this

theorem word_ok (w : B) (h : w = wNodes ∨ w = wReplicas ∨ w = wBlock ∨ w = wRoom ∨ w = wRounds ∨ w = wFlips ∨ w = wClient ∨ w = wChoose) : w ≠ [] ∧ w.head? ≠ some 35 ∧ (∀ c ∈ w, c ≠ 10 ∧ c ≠ 32 ∧ c ≠ 34 ∧ c ≠ 92) := by
  rcases h with rfl | rfl | rfl | rfl | rfl | rfl | rfl | rfl <;> decide

theorem shown_num (w : B) (n : Int) (h : w = wNodes ∨ w = wReplicas ∨ w = wBlock ∨ w = wRoom ∨ w = wRounds ∨ w = wFlips ∨ w = wClient ∨ w = wChoose) : Shown [w, Lib.itoa n] w [⟨Lib.itoa n, false⟩] :=
  ⟨by simp [ftext], word_ok w h, by intro f hf; simp only [List.mem_singleton] at hf; subst hf; exact okG_itoa n⟩

theorem shown_word (w : B) (h : w = wNodes ∨ w = wReplicas ∨ w = wBlock ∨ w = wRoom ∨ w = wRounds ∨ w = wFlips ∨ w = wClient ∨ w = wChoose) : Shown [w] w [] :=
  ⟨by simp [ftext], word_ok w h, by simp⟩

theorem lineS_num {s : Script} {w : B} {n : Int} (hn : Small n) (hw : (setNum s w 0).isSome = true) : lineS s ⟨w, false⟩ [⟨Lib.itoa n, false⟩] = .ok ((setNum s w n).getD s) := by
  simp only [lineS, Bool.false_eq_true, if_false, hw, if_true, number_itoa n hn]

theorem nums_itoa : ∀ (l : List Int), (∀ n ∈ l, Small n) → nums (l.map fun n => ⟨Lib.itoa n, false⟩) = some l
  | [], _ => rfl
  | n :: l, h => by
    simp only [List.map_cons, nums, number_itoa n (h n (by simp)), nums_itoa l (fun m hm => h m (by simp [hm]))]

theorem lineS_choose {s : Script} {l : List Int} (h0 : l ≠ []) (h : ∀ n ∈ l, Small n) : lineS s ⟨wChoose, false⟩ (l.map fun n => ⟨Lib.itoa n, false⟩) = .ok { s with choices := s.choices ++ l } := by
  have e : (setNum s wChoose 0).isSome = false := by simp [setNum, wChoose, wNodes, wReplicas, wBlock, wRoom, wRounds]
  obtain ⟨x, l', rfl⟩ : ∃ x l', l = x :: l' := by
    cases l with
    | nil => exact absurd rfl h0
    | cons x l' => exact ⟨x, l', rfl⟩
  have hn := nums_itoa _ h
  simp only [lineS, Bool.false_eq_true, if_false, e, show (wChoose = wFlips) = False by decide, show (wChoose = wClient) = False by decide, if_true, List.map_cons]
  rw [List.map_cons] at hn
  simp only [hn]

theorem lineS_flips {s : Script} : lineS s ⟨wFlips, false⟩ [] = .ok { s with flips := true } := by
  have e : (setNum s wFlips 0).isSome = false := by simp [setNum, wFlips, wNodes, wReplicas, wBlock, wRoom, wRounds]
  simp [lineS, e]
theorem lineS_client {s : Script} : lineS s ⟨wClient, false⟩ [] = .ok { s with acts := s.acts ++ [[]] } := by
  have e : (setNum s wClient 0).isSome = false := by simp [setNum, wClient, wNodes, wReplicas, wBlock, wRoom, wRounds]
  simp [lineS, e, show (wClient = wFlips) = False by decide]

theorem addAct_last (l : List (List Act)) (m : List Act) (a : Act) : addAct (l ++ [m]) a = l ++ [m ++ [a]] := by
  induction l with
  | nil => rfl
  | cons x l ih =>
    cases l with
    | nil => simp [addAct]
    | cons y l => simp only [List.cons_append, addAct] at ih ⊢; rw [ih]

theorem spread_app (g : Nat) (q : List B) (a b : List (List B)) : spread g q (a ++ b) = spread g q a ++ spread g q b := by simp [spread]
theorem spread_cons (g : Nat) (q : List B) (a : List B) (b : List (List B)) : spread g q (a :: b) = (joinG g a :: q) ++ spread g q b := by simp [spread]
theorem spread_nil (g : Nat) (q : List B) : spread g q [] = [] := rfl

theorem WAct.showable {a : Act} (h : WAct a) : showable a = true := by
  obtain ⟨k, w, args, rest, hv, ha⟩ := h
  have := WAct.kind ha
  have := verbs_cases hv
  simp only [Con.showable, Bool.and_eq_true, decide_eq_true_eq]
  omega

theorem reads_acts (g : Nat) {q : List B} (hq : Quiet q) (l : List Act) : ∀ (s : Script) (pre : List (List Act)) (m : List Act), (∀ a ∈ l, WAct a) → s.acts = pre ++ [m] →
    Reads (spread g q (actLines l)) s { s with acts := pre ++ [m ++ l] } := by
  induction l with
  | nil =>
    intro s pre m _ hs
    simp only [actLines, List.filter_nil, List.map_nil, spread_nil, List.append_nil]
    rw [← hs]
    exact Reads.nil _
  | cons a l ih =>
    intro s pre m hl hs
    have ha := hl a (by simp)
    obtain ⟨k, w, args, fs, hv, hact, hshown⟩ := ha.shown
    have h1 : lineS s ⟨w, false⟩ fs = .ok { s with acts := pre ++ [m ++ [a]] } := by
      rw [lineS_verb hv hact (by rw [hs]; simp), hs, addAct_last]
    have h2 := ih { s with acts := pre ++ [m ++ [a]] } pre (m ++ [a]) (fun x hx => hl x (by simp [hx])) rfl
    have e : actLines (a :: l) = actTexts a :: actLines l := by
      simp only [actLines, List.filter_cons, ha.showable, if_true, List.map_cons]
    rw [e, spread_cons]
    refine (hshown.spread g hq h1).app ?_
    simpa using h2

theorem reads_clients (g : Nat) {q : List B} (hq : Quiet q) (ls : List (List Act)) : ∀ (s : Script), (∀ l ∈ ls, ∀ a ∈ l, WAct a) →
    Reads (spread g q (ls.flatMap fun l => [wClient] :: actLines l)) s { s with acts := s.acts ++ ls } := by
  induction ls with
  | nil => intro s _; simp only [List.flatMap_nil, spread_nil, List.append_nil]; exact Reads.nil _
  | cons l ls ih =>
    intro s h
    rw [List.flatMap_cons, List.cons_append, spread_cons, spread_app]
    refine ((shown_word wClient (by simp)).spread g hq lineS_client).app ?_
    refine (reads_acts g hq l _ s.acts [] (h l (by simp)) rfl).app ?_
    have := ih { s with acts := s.acts ++ [[] ++ l] } (fun m hm => h m (by simp [hm]))
    simpa using this

theorem reads_show (g : Nat) {q : List B} (hq : Quiet q) (s : Script) (hs : WF s) : Reads (spread g q (showLines s)) Script.zero s := by
  unfold showLines
  rw [spread_app, spread_app, spread_app]
  have h1 : Reads (spread g q [[wNodes, Lib.itoa s.nodes], [wReplicas, Lib.itoa s.replicas], [wBlock, Lib.itoa s.block], [wRoom, Lib.itoa s.room], [wRounds, Lib.itoa s.rounds]]) Script.zero ⟨s.nodes, s.replicas, s.block, s.room, [], [], s.rounds, false⟩ := by
    simp only [spread_cons, spread_nil, List.append_nil]
    refine ((shown_num wNodes s.nodes (by simp)).spread g hq (lineS_num hs.n1 (by decide))).app ?_
    refine ((shown_num wReplicas s.replicas (by simp)).spread g hq (lineS_num hs.n2 (by rfl))).app ?_
    refine ((shown_num wBlock s.block (by simp)).spread g hq (lineS_num hs.n3 (by rfl))).app ?_
    refine ((shown_num wRoom s.room (by simp)).spread g hq (lineS_num hs.n4 (by rfl))).app ?_
    exact (shown_num wRounds s.rounds (by simp)).spread g hq (lineS_num hs.n5 (by rfl))
  have h2 : Reads (spread g q (if s.flips then [[wFlips]] else [])) ⟨s.nodes, s.replicas, s.block, s.room, [], [], s.rounds, false⟩ ⟨s.nodes, s.replicas, s.block, s.room, [], [], s.rounds, s.flips⟩ := by
    cases hf : s.flips with
    | false => simp only [Bool.false_eq_true, if_false, spread_nil]; exact Reads.nil _
    | true =>
      simp only [if_true, spread_cons, spread_nil, List.append_nil]
      exact (shown_word wFlips (by simp)).spread g hq lineS_flips
  have h3 : Reads (spread g q (if s.choices = [] then [] else [wChoose :: s.choices.map Lib.itoa])) ⟨s.nodes, s.replicas, s.block, s.room, [], [], s.rounds, s.flips⟩ ⟨s.nodes, s.replicas, s.block, s.room, [], s.choices, s.rounds, s.flips⟩ := by
    by_cases hc : s.choices = []
    · rw [if_pos hc, hc, spread_nil]; exact Reads.nil _
    · rw [if_neg hc]
      simp only [spread_cons, spread_nil, List.append_nil]
      have hsh : Shown (wChoose :: s.choices.map Lib.itoa) wChoose (s.choices.map fun n => ⟨Lib.itoa n, false⟩) :=
        ⟨by simp [ftext, List.map_map, Function.comp_def], word_ok _ (by simp), by
          intro f hf
          rw [List.mem_map] at hf
          obtain ⟨n, _, rfl⟩ := hf
          exact okG_itoa n⟩
      have := hsh.spread g hq (lineS_choose (s := ⟨s.nodes, s.replicas, s.block, s.room, [], [], s.rounds, s.flips⟩) hc hs.ch)
      simpa using this
  have h4 := reads_clients g hq s.acts ⟨s.nodes, s.replicas, s.block, s.room, [], s.choices, s.rounds, s.flips⟩ hs.ac
  have h5 := ((h1.app h2).app h3).app h4
  simpa using h5

theorem parseLines_reads {ls : List B} {s s1 : Script} (h : Reads ls s s1) : parseLines ls 0 s = (s1, 0, 0) := by
  obtain ⟨j, e⟩ := h 0 []
  simpa [parseLines] using e

theorem spread_nl (g : Nat) {q : List B} (hq : ∀ l ∈ q, ∀ c ∈ l, c ≠ 10) (ls : List (List B)) (h : ∀ l ∈ ls, ∀ c ∈ joinG g l, c ≠ 10) : ∀ l ∈ spread g q ls, ∀ c ∈ l, c ≠ 10 := by
  intro l hl
  simp only [spread, List.mem_flatMap, List.mem_cons] at hl
  obtain ⟨x, hx, rfl | hl⟩ := hl
  · exact h x hx
  · exact hq l hl

/-- every shown line is one -/
theorem showLines_shown (s : Script) (hs : WF s) : ∀ l ∈ showLines s, ∃ w fs, Shown l w fs := by
  intro l hl
  simp only [showLines, List.mem_append, List.mem_flatMap, List.mem_cons, List.not_mem_nil, or_false] at hl
  rcases hl with (((rfl | rfl | rfl | rfl | rfl) | hl) | hl) | hl
  · exact ⟨_, _, shown_num wNodes _ (by simp)⟩
  · exact ⟨_, _, shown_num wReplicas _ (by simp)⟩
  · exact ⟨_, _, shown_num wBlock _ (by simp)⟩
  · exact ⟨_, _, shown_num wRoom _ (by simp)⟩
  · exact ⟨_, _, shown_num wRounds _ (by simp)⟩
  · split at hl
    · simp only [List.mem_singleton] at hl; subst hl; exact ⟨_, _, shown_word wFlips (by simp)⟩
    · simp at hl
  · split at hl
    · simp at hl
    · simp only [List.mem_singleton] at hl; subst hl
      refine ⟨wChoose, s.choices.map fun n => ⟨Lib.itoa n, false⟩, by simp [ftext, List.map_map, Function.comp_def], word_ok _ (by simp), ?_⟩
      intro f hf
      rw [List.mem_map] at hf
      obtain ⟨n, _, rfl⟩ := hf
      exact okG_itoa n
  · obtain ⟨acts, hacts, hl⟩ := hl
    rcases hl with rfl | hl
    · exact ⟨_, _, shown_word wClient (by simp)⟩
    · simp only [actLines, List.mem_map, List.mem_filter] at hl
      obtain ⟨a, ⟨ha, _⟩, rfl⟩ := hl
      obtain ⟨k, w, args, fs, _, _, h⟩ := (hs.ac acts hacts a ha).shown
      exact ⟨_, _, h⟩

theorem showLines_nl (s : Script) (hs : WF s) (g : Nat) : ∀ l ∈ showLines s, ∀ c ∈ joinG g l, c ≠ 10 := by
  intro l hl
  obtain ⟨w, fs, h⟩ := showLines_shown s hs l hl
  exact h.nl g

/-- ████ what is shown is read again ████ -/
theorem parse_show (s : Script) (hs : WF s) (h : (showS s).length ≤ 1048576) : parse (showS s) = (s, 0, 0) := by
  unfold parse
  rw [if_neg (by omega)]
  have e : showS s = (spread 0 [] (showLines s)).flatMap fun l => l ++ [10] := by
    unfold showS spread
    rw [List.flatMap_assoc]
    congr 1
    funext l
    simp [joinG_zero]
  rw [e, linesOf_lines _ (spread_nl 0 (by simp) _ (showLines_nl s hs 0))]
  exact parseLines_reads (reads_show 0 (fun s => Reads.nil s) s hs)

theorem there_and_back {t : B} {s : Script} {l : Nat} (h : parse t = (s, 0, l)) (hl : (showS s).length ≤ 1048576) : parse (showS s) = (s, 0, 0) := parse_show s (parse_WF h) hl
end Go.Proofs.YtmkmkccdlopogaaGreatDoor.Con
