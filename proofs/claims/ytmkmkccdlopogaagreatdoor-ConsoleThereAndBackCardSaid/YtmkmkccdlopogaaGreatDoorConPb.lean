import Derived.Test.YtmkmkccdlopogaaGreatDoorConP
import Derived.Test.YtmkmkccdlopogaaGreatDoorConSa
/- Plain: how long the text of a script is that was read. -/
set_option linter.unusedVariables false
set_option linter.unusedSimpArgs false
namespace Go.Proofs.YtmkmkccdlopogaaGreatDoor.Con
open Go

def fsum (fs : List Field) : Nat := (fs.map fun f => f.text.length + 1).sum
theorem unq_out2 (l : B) (i : Nat) (out : B) : ∀ x k, unq l i out = some (x, k) → x.length + i ≤ out.length + k := by
  induction l, i, out using unq.induct
  case case7 c i out h1 h2 h3 a b t2 x y hy hx hd ih =>
    intro z k h
    have e : unq (c :: 120 :: a :: b :: t2) i out = unq t2 (i + 4) (out ++ [UInt8.ofNat (x * 16 + y)]) := by
      rw [unq.eq_def]
      simp only [h1, if_false, h2, h3, hd, hx, hy, if_true]
    have := ih z k (by rw [← e]; exact h)
    simp only [List.length_append, List.length_cons, List.length_nil] at this
    omega
  all_goals intro x k h
  all_goals rw [unq.eq_def] at h
  all_goals first
    | (rename_i ih; have hh := ih x k; clear ih; simp_all; omega)
    | (simp_all; done)
    | (simp_all; omega)
theorem blanks_le (s : B) : blanks s ≤ s.length := by
  induction s with
  | nil => simp [blanks]
  | cons c t ih => unfold blanks; split <;> simp <;> omega
theorem blanks_one' (t : B) : ((32 :: t : B).drop (blanks (32 :: t))).length ≤ t.length := by
  simp [blanks]
theorem cutF_sum : ∀ (n : Nat) (s : B) (fs : List Field), cutF n s = some fs → fsum fs ≤ (s.drop (blanks s)).length + 1
  | 0, s, fs, h => by simp [cutF] at h
  | n + 1, s, fs, h => by
    simp only [cutF] at h
    split at h
    · simp at h; subst h; simp [fsum]
    · rename_i c t e
      rw [e]
      have key : ∀ (r : B) (g : Field) (gs : List Field), r.head?.getD 32 ≠ 34 → r.head?.getD 32 = 32 ∨ r = [] → (cutF n r).map (g :: ·) = some gs → fsum gs ≤ g.text.length + 1 + r.length := by
        intro r g gs _ hr e2
        rw [Option.map_eq_some_iff] at e2
        obtain ⟨q, hq, rfl⟩ := e2
        have h1 := cutF_sum n r q hq
        cases r with
        | nil => simp [fsum] at h1 ⊢; cases n with
          | zero => simp [cutF] at hq
          | succ n => simp [cutF, blanks] at hq; subst hq; simp
        | cons d r =>
          have hd : d = 32 := by rcases hr with hr | hr <;> simp at hr; exact hr
          subst hd
          have h2 := blanks_one' r
          simp only [fsum, List.map_cons, List.sum_cons, List.length_cons] at h1 ⊢
          omega
      split at h
      · split at h
        · simp at h
        · rename_i x k hu
          have h1 := unq_out2 _ _ _ _ _ hu
          have h2 := (unq_len _ _ _ _ _ hu).2
          split at h
          · rename_i h32
            have h3 := key _ _ _ (by rw [h32]; decide) (.inl h32) h
            simp only [List.length_drop, List.length_nil] at h1 h3
            simp only [List.length_cons]
            omega
          · simp at h
      · split at h
        · simp at h
        · rename_i h34
          have hp := plain_le (c :: t)
          have hr : ((c :: t).drop (plainLen (c :: t))).head?.getD 32 = 32 ∨ (c :: t).drop (plainLen (c :: t)) = [] := by
            rcases Nat.lt_or_ge (plainLen (c :: t)) (c :: t).length with hl | hl
            · left
              have hs := plain_stop (c :: t) hl
              rw [List.drop_eq_getElem_cons hl] at h34 ⊢
              simp only [List.head?_cons, Option.getD_some] at h34 ⊢
              rcases hs with hs | hs
              · exact hs
              · exact absurd hs h34
            · right
              exact List.drop_eq_nil_of_le hl
          have h3 := key _ _ _ h34 hr h
          simp only [List.length_drop, List.length_take] at h3
          omega
theorem cut_sum {s : B} {fs : List Field} (h : cut s = some fs) : fsum fs ≤ s.length + 1 := by
  have := cutF_sum _ _ _ h
  simp only [List.length_drop] at this
  omega

/-- what a line gives to an act: no more than the line -/
structure AW (m : Nat) (a : Act) : Prop where
  kind : 1 ≤ a.kind ∧ a.kind < 12
  quota : Small a.quota
  parts : Small a.job.parts
  split : Small a.job.split
  spill : Small a.job.spill
  sum : a.path.length + a.«to».length + a.data.length + a.job.program.length + a.job.output.length + (a.job.inputs.map fun x => x.length + 1).sum ≤ m
theorem fsum_cons (f : Field) (fs : List Field) : fsum (f :: fs) = f.text.length + 1 + fsum fs := by simp [fsum]
theorem submit_AW {fs : List Field} {a : Act} (h : submitOf fs = some a) : AW (fsum fs) a := by
  unfold submitOf at h
  split at h
  · rename_i p o x y z g l
    split at h
    · rename_i n1 n2 n3 h1 h2 h3
      simp only [Option.some.injEq] at h
      subst h
      refine ⟨by simp [Act.zero], small_zero, number_small h1, number_small h2, number_small h3, ?_⟩
      have e : (l.map (·.text)).map (fun x => x.length + 1) = l.map (fun f => f.text.length + 1) := by simp
      simp only [Act.zero, fsum_cons, List.length_nil, e]
      have : fsum l = (l.map fun f => f.text.length + 1).sum := rfl
      omega
    · simp at h
  · simp at h
theorem args_AW : ∀ (cs : B) (fs : List Field) (a b : Act) (m : Nat), AW m a → argsOf cs fs a = some b → (a.path = [] ∨ 112 ∉ cs) → (a.«to» = [] ∨ 113 ∉ cs) → (a.data = [] ∨ 100 ∉ cs) → cs.Nodup → AW (m + fsum fs) b
  | [], [], a, b, m, ha, h, _, _, _, _ => by simp [argsOf] at h; subst h; exact ⟨ha.kind, ha.quota, ha.parts, ha.split, ha.spill, by have := ha.sum; omega⟩
  | [], _ :: _, a, b, m, ha, h, _, _, _, _ => by simp [argsOf] at h
  | _ :: _, [], a, b, m, ha, h, _, _, _, _ => by simp [argsOf] at h
  | c :: cs, f :: fs, a, b, m, ha, h, hp, hq, hd, hn => by
    obtain ⟨hc, hn2⟩ := List.nodup_cons.1 hn
    clear hn
    have hn := hn2
    simp only [argsOf] at h
    rw [fsum_cons]
    have hs := ha.sum
    have fin : AW (m + (f.text.length + 1) + fsum fs) b → AW (m + (f.text.length + 1 + fsum fs)) b := fun h => by rw [← Nat.add_assoc]; exact h
    apply fin
    split at h
    · rename_i e; subst e
      have hp0 : a.path = [] := by rcases hp with h | h; exact h; exact absurd (List.mem_cons_self) h
      refine args_AW cs fs { a with path := f.text } b (m + (f.text.length + 1)) ⟨ha.kind, ha.quota, ha.parts, ha.split, ha.spill, ?_⟩ h (.inr hc) ?_ ?_ hn
      · simp only [hp0, List.length_nil] at hs ⊢; omega
      · exact hq.imp id (fun h h2 => h (List.mem_cons_of_mem _ h2))
      · exact hd.imp id (fun h h2 => h (List.mem_cons_of_mem _ h2))
    · split at h
      · rename_i e; subst e
        have hp0 : a.«to» = [] := by rcases hq with h | h; exact h; exact absurd (List.mem_cons_self) h
        refine args_AW cs fs { a with «to» := f.text } b (m + (f.text.length + 1)) ⟨ha.kind, ha.quota, ha.parts, ha.split, ha.spill, ?_⟩ h ?_ (.inr hc) ?_ hn
        · simp only [hp0, List.length_nil] at hs ⊢; omega
        · exact hp.imp id (fun h h2 => h (List.mem_cons_of_mem _ h2))
        · exact hd.imp id (fun h h2 => h (List.mem_cons_of_mem _ h2))
      · split at h
        · rename_i e; subst e
          have hp0 : a.data = [] := by rcases hd with h | h; exact h; exact absurd (List.mem_cons_self) h
          refine args_AW cs fs { a with data := f.text } b (m + (f.text.length + 1)) ⟨ha.kind, ha.quota, ha.parts, ha.split, ha.spill, ?_⟩ h ?_ ?_ (.inr hc) hn
          · simp only [hp0, List.length_nil] at hs ⊢; omega
          · exact hp.imp id (fun h h2 => h (List.mem_cons_of_mem _ h2))
          · exact hq.imp id (fun h h2 => h (List.mem_cons_of_mem _ h2))
        · split at h
          · rename_i n hnum
            refine args_AW cs fs { a with quota := n } b (m + (f.text.length + 1)) ⟨ha.kind, number_small hnum, ha.parts, ha.split, ha.spill, ?_⟩ h ?_ ?_ ?_ hn
            · simp only; omega
            · exact hp.imp id (fun h h2 => h (List.mem_cons_of_mem _ h2))
            · exact hq.imp id (fun h h2 => h (List.mem_cons_of_mem _ h2))
            · exact hd.imp id (fun h h2 => h (List.mem_cons_of_mem _ h2))
          · simp at h
theorem verbs_nodup : ∀ p ∈ verbs, p.2.Nodup := by decide
theorem act_AW {k : Nat} {w args : B} {fs : List Field} {a : Act} (hv : findVerb 1 verbs w = some (k, args)) (h : actOf k args fs = some a) : AW (fsum fs) a := by
  obtain ⟨i, hi, hv'⟩ := findVerb_at _ _ _ _ _ hv
  have hi2 := (List.getElem?_eq_some_iff.1 hv').1
  have hvl : verbs.length = 11 := rfl
  unfold actOf at h
  split at h
  · exact submit_AW h
  · have := args_AW args fs (Act.zero k) a 0 ⟨by simp [Act.zero]; omega, small_zero, small_zero, small_zero, small_zero, by simp [Act.zero, Job.zero]⟩ h (.inl rfl) (.inl rfl) (.inl rfl) (verbs_nodup _ (List.mem_of_getElem? hv'))
    simpa using this
def AWs (s : Script) : Prop := ∀ l ∈ s.acts, ∀ a ∈ l, AW 1048576 a
theorem AWs.line {s s1 : Script} {w : Field} {rest : List Field} (hs : AWs s) (hr : fsum (w :: rest) ≤ 1048577) (h : lineS s w rest = .ok s1) : AWs s1 := by
  rw [fsum_cons] at hr
  unfold lineS at h
  split at h
  · simp at h
  split at h
  · split at h
    · split at h
      · simp only [Except.ok.injEq] at h
        subst h
        obtain ⟨e1, e2⟩ := setNum_keeps (s := s) (w := w.text) (n := ‹Int›)
        unfold AWs
        rw [e1]
        exact hs
      · simp at h
    · simp at h
  split at h
  · split at h
    · simp only [Except.ok.injEq] at h; subst h; exact hs
    · simp at h
  split at h
  · split at h
    · simp only [Except.ok.injEq] at h; subst h
      intro l hl a ha
      simp only [List.mem_append, List.mem_singleton] at hl
      rcases hl with hl | rfl
      · exact hs l hl a ha
      · simp at ha
    · simp at h
  split at h
  · split at h
    · simp only [Except.ok.injEq] at h; subst h; exact hs
    · simp at h
  split at h
  · simp at h
  · rename_i k args hv
    split at h
    · simp at h
    · rename_i a ha
      split at h
      · simp at h
      · simp only [Except.ok.injEq] at h; subst h
        intro l hl x hx
        rcases addAct_mem _ _ l hl x hx with rfl | ⟨m, h1, h2⟩
        · have := act_AW hv ha
          exact ⟨this.kind, this.quota, this.parts, this.split, this.spill, by have := this.sum; omega⟩
        · exact hs m h1 x h2
theorem parseLines_AW : ∀ (ls : List B) (i : Nat) (s s1 : Script) (l : Nat), (∀ x ∈ ls, x.length ≤ 1048576) → AWs s → Bd i s → parseLines ls i s = (s1, 0, l) → AWs s1 ∧ Bd (i + ls.length) s1
  | [], i, s, s1, l, _, hs, hb, h => by simp only [parseLines, Prod.mk.injEq] at h; rw [← h.1]; exact ⟨hs, hb⟩
  | x :: ls, i, s, s1, l, hx, hs, hb, h => by
    have hls : ∀ y ∈ ls, y.length ≤ 1048576 := fun y hy => hx y (List.mem_cons_of_mem _ hy)
    have e : i + (x :: ls).length = (i + 1) + ls.length := by simp; omega
    rw [e]
    simp only [parseLines] at h
    split at h
    · exact parseLines_AW ls _ s s1 l hls hs hb.next h
    · split at h
      · simp at h
      · exact parseLines_AW ls _ s s1 l hls hs hb.next h
      · rename_i w rest hc
        have h1 := cut_sum hc
        have h2 := cut_len hc
        have h3 := hx x (List.mem_cons_self)
        split at h
        · rename_i e he
          simp only [Prod.mk.injEq] at h
          exact absurd h.2.1 (lineS_code he)
        · rename_i s2 hl
          exact parseLines_AW ls _ s2 s1 l hls (hs.line (by omega) hl) (hb.line (by have := h2.1; simp at this; omega) hl) h
theorem parse_AW {t : B} {s : Script} {l : Nat} (h : parse t = (s, 0, l)) : AWs s ∧ Bd 1048577 s := by
  unfold parse at h
  split at h
  · simp at h
  · rename_i hl
    have hn := splitNl_len t
    obtain ⟨n, hn1, hn2, -, -⟩ := linesOf_take t
    have := parseLines_AW (linesOf t) 0 Script.zero s l (fun x hx => by
      rw [hn1] at hx
      have := hn.2 x (List.mem_of_mem_take hx)
      omega) (by simp [AWs, Script.zero]) Bd.zero h
    refine ⟨this.1, ?_⟩
    have h2 := this.2
    have h3 : 0 + (linesOf t).length ≤ 1048577 := by rw [hn1, List.length_take]; omega
    exact ⟨Nat.le_trans h2.al h3, fun l hl => Nat.le_trans (h2.ac l hl) h3, Nat.le_trans h2.ch (Nat.mul_le_mul_right _ h3)⟩
end Go.Proofs.YtmkmkccdlopogaaGreatDoor.Con
