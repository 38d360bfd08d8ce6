import Derived.Test.YtmkmkccdlopogaaGreatDoorConC
import Derived.Test.YtmkmkccdlopogaaGreatDoorConQ
import Derived.Lib.SplitLaws
/- Plain: the lines of a text by strings.Split; lengths of fields; how many acts and choices a reader can hold. -/
set_option linter.unusedVariables false
set_option linter.unusedSimpArgs false
namespace Go.Proofs.YtmkmkccdlopogaaGreatDoor.Con
open Go

theorem splitK_ne (b : UInt8) (l : B) (hb : b ≠ 10) (k : Nat) : Lib.splitK [10] 0 k (b :: l) = match Lib.splitK [10] 0 k l with
    | [] => [[b]]
    | x :: r => (b :: x) :: r := by
  have h0 : ([10] : B).isPrefixOf (b :: l) = false := by
    simp [List.isPrefixOf]
    exact fun h => absurd h.symm hb
  cases k with
  | zero => rfl
  | succ k =>
    have hg := Lib.index_ge l [10]
    by_cases hi : Lib.index l [10] = -1
    · have h1 : Lib.index (b :: l) [10] = -1 := by unfold Lib.index; rw [if_neg (by rw [h0]; simp), hi]; rfl
      rw [Lib.splitK, Lib.splitK, if_pos (by rw [h1]; rfl), if_pos (by rw [hi]; rfl)]
    · obtain ⟨i, hi2⟩ : ∃ i : Nat, Lib.index l [10] = i := ⟨(Lib.index l [10]).toNat, by omega⟩
      have h1 : Lib.index (b :: l) [10] = ((i + 1 : Nat) : Int) := by
        unfold Lib.index
        rw [if_neg (by rw [h0]; simp), hi2, if_neg (by simp)]
        omega
      rw [Lib.splitK, Lib.splitK, if_neg (by rw [h1]; simp <;> omega), if_neg (by rw [hi2]; simp), h1, hi2]
      simp only [Int.toNat_natCast, Nat.add_zero, List.take_succ_cons, List.length_singleton, List.drop_succ_cons]

theorem splitK_nl : ∀ s : B, Lib.splitK [10] 0 (s.count 10) s = splitNl s
  | [] => rfl
  | b :: l => by
    have ih := splitK_nl l
    by_cases hb : b = 10
    · subst hb
      rw [List.count_cons_self]
      have h1 : Lib.index (10 :: l) [10] = 0 := by unfold Lib.index; rw [if_pos (by simp [List.isPrefixOf])]
      rw [Lib.splitK, if_neg (by rw [h1]; decide), h1]
      simp only [Int.toNat_zero, Nat.zero_add, List.take_zero, List.length_singleton, List.drop_succ_cons, List.drop_zero, ih]
      simp [splitNl]
    · rw [List.count_cons_of_ne hb, splitK_ne b l hb, ih]
      conv => rhs; unfold splitNl
      rw [if_neg hb]
      rfl

/-- the lines that Split lays -/
def linesB (s : ByteArray) : List ByteArray := Lib.splitB ⟨#[10]⟩ 0 (Lib.countB s ⟨#[10]⟩) s
theorem linesB_data (s : ByteArray) : (linesB s).map (·.data.toList) = splitNl s.data.toList := by
  unfold linesB
  rw [Lib.splitB_data]
  show Lib.splitK [10] 0 (Lib.count s.data.toList [10]) s.data.toList = _
  rw [Lib.count_one]
  exact splitK_nl _
theorem linesB_len (s : ByteArray) : (linesB s).length = Lib.countB s ⟨#[10]⟩ + 1 := Lib.splitB_all _ (by decide) 0 _ s rfl
theorem splitNl_ne : ∀ s : B, splitNl s ≠ []
  | [] => by simp [splitNl]
  | c :: t => by
    have := splitNl_ne t
    unfold splitNl
    split
    · simp
    · split <;> simp
theorem splitNl_len : ∀ s : B, (splitNl s).length ≤ s.length + 1 ∧ ∀ l ∈ splitNl s, l.length ≤ s.length
  | [] => by simp [splitNl]
  | c :: t => by
    obtain ⟨h1, h2⟩ := splitNl_len t
    unfold splitNl
    split
    · refine ⟨by simp; omega, fun l hl => ?_⟩
      rcases List.mem_cons.1 hl with rfl | hl
      · simp
      · have := h2 l hl; simp; omega
    · split
      · exact ⟨by simp, fun l hl => by simp at hl; subst hl; simp⟩
      · rename_i x r e
        rw [e] at h1 h2
        simp only [List.length_cons, List.mem_cons, forall_eq_or_imp] at h1 h2 ⊢
        refine ⟨by omega, by omega, fun l hl => ?_⟩
        have := h2.2 l hl
        omega
theorem linesOf_take (t : B) : ∃ n, linesOf t = (splitNl t).take n ∧ n ≤ (splitNl t).length ∧ ((splitNl t).getLast? = some [] → n = (splitNl t).length - 1) ∧ ((splitNl t).getLast? ≠ some [] → n = (splitNl t).length) := by
  unfold linesOf
  by_cases h : (splitNl t).getLast? = some []
  · rw [if_pos h]
    exact ⟨(splitNl t).length - 1, by rw [List.dropLast_eq_take], by omega, fun _ => rfl, fun k => absurd h k⟩
  · rw [if_neg h]
    exact ⟨(splitNl t).length, by rw [List.take_length], Nat.le_refl _, fun k => absurd k h, fun _ => rfl⟩

theorem unq_out (l : B) (i : Nat) (out : B) : ∀ x k, unq l i out = some (x, k) → x.length ≤ out.length + l.length := by
  induction l, i, out using unq.induct
  case case7 c i out h1 h2 h3 a b t2 x y hy hx hd ih =>
    intro z k h
    have e : unq (c :: 120 :: a :: b :: t2) i out = unq t2 (i + 4) (out ++ [UInt8.ofNat (x * 16 + y)]) := by
      rw [unq.eq_def]
      simp only [h1, if_false, h2, h3, hd, hx, hy, if_true]
    have := ih z k (by rw [← e]; exact h)
    simp only [List.length_cons, List.length_append, List.length_nil] at this ⊢
    omega
  all_goals intro x k h
  all_goals rw [unq.eq_def] at h
  all_goals first
    | (rename_i ih; have hh := ih x k; clear ih; simp_all; omega)
    | (simp_all; done)
    | (simp_all; omega)

theorem cutF_len : ∀ (n : Nat) (s : B) (fs : List Field), cutF n s = some fs → fs.length ≤ n - 1 ∧ ∀ f ∈ fs, f.text.length ≤ s.length
  | 0, s, fs, h => by simp [cutF] at h
  | n + 1, s, fs, h => by
    have hn : ∀ (t : B) (g : Field) (gs : List Field), t.length ≤ s.length → g.text.length ≤ s.length → (cutF n t).map (g :: ·) = some gs → gs.length ≤ n ∧ ∀ f ∈ gs, f.text.length ≤ s.length := by
      intro t g gs ht hg e
      rw [Option.map_eq_some_iff] at e
      obtain ⟨r, hr, rfl⟩ := e
      obtain ⟨h1, h2⟩ := cutF_len n t r hr
      have hn0 : n ≠ 0 := by rintro rfl; simp [cutF] at hr
      refine ⟨by simp; omega, fun f hf => ?_⟩
      rcases List.mem_cons.1 hf with rfl | hf
      · exact hg
      · exact Nat.le_trans (h2 f hf) ht
    simp only [cutF] at h
    split at h
    · simp at h; subst h; simp
    · rename_i c t e
      have hct : t.length + 1 ≤ s.length := by
        have := congrArg List.length e
        simp at this
        omega
      split at h
      · split at h
        · simp at h
        · rename_i x k hu
          have := unq_out _ _ _ _ _ hu
          simp only [List.length_nil, Nat.zero_add] at this
          split at h
          · exact hn _ _ _ (by simp; omega) (by simp; omega) h
          · simp at h
      · split at h
        · simp at h
        · exact hn _ _ _ (by simp; omega) (by simp; omega) h
theorem cut_len {s : B} {fs : List Field} (h : cut s = some fs) : fs.length ≤ s.length ∧ ∀ f ∈ fs, f.text.length ≤ s.length := by
  have := cutF_len _ _ _ h
  exact ⟨by omega, this.2⟩

/-- how much a reader can hold behind k lines -/
structure Bd (k : Nat) (s : Script) : Prop where
  al : s.acts.length ≤ k
  ac : ∀ l ∈ s.acts, l.length ≤ k
  ch : s.choices.length ≤ k * 1048576
theorem Bd.zero : Bd 0 Script.zero := ⟨Nat.le_refl _, by simp [Script.zero], Nat.le_refl _⟩
theorem Bd.next {k : Nat} {s : Script} (h : Bd k s) : Bd (k + 1) s := ⟨by have := h.al; omega, fun l hl => by have := h.ac l hl; omega, Nat.le_trans h.ch (Nat.mul_le_mul_right _ (Nat.le_succ k))⟩
theorem nums_len : ∀ (l : List Field) (r : List Int), nums l = some r → r.length = l.length
  | [], r, h => by simp [nums] at h; subst h; rfl
  | f :: l, r, h => by
    simp only [nums] at h
    split at h
    · rename_i n q h1 h2
      simp at h; subst h
      simp [nums_len l q h2]
    · simp at h
theorem addAct_len : ∀ (l : List (List Act)) (a : Act) (k : Nat), (∀ m ∈ l, m.length ≤ k) → (addAct l a).length = l.length ∧ ∀ m ∈ addAct l a, m.length ≤ k + 1
  | [], _, _, _ => by simp [addAct]
  | [m], a, k, h => by
    have := h m (by simp)
    simp [addAct]
    omega
  | m :: m2 :: l, a, k, h => by
    obtain ⟨h1, h2⟩ := addAct_len (m2 :: l) a k (fun x hx => h x (by simp at hx ⊢; exact .inr hx))
    refine ⟨by simp only [addAct, List.length_cons] at h1 ⊢; omega, fun x hx => ?_⟩
    simp only [addAct, List.mem_cons] at hx
    rcases hx with rfl | hx
    · have := h x (by simp); omega
    · exact h2 x (by simpa using hx)
theorem setNum_keeps {s : Script} {w : B} {n : Int} : ((setNum s w n).getD s).acts = s.acts ∧ ((setNum s w n).getD s).choices = s.choices := by
  unfold setNum
  repeat' split
  all_goals exact ⟨rfl, rfl⟩
theorem Bd.line {k : Nat} {s s1 : Script} {w : Field} {rest : List Field} (hs : Bd k s) (hr : rest.length ≤ 1048576) (h : lineS s w rest = .ok s1) : Bd (k + 1) s1 := by
  have hn := hs.next
  unfold lineS at h
  split at h
  · simp at h
  split at h
  · split at h
    · split at h
      · simp only [Except.ok.injEq] at h
        subst h
        obtain ⟨e1, e2⟩ := setNum_keeps (s := s) (w := w.text) (n := ‹Int›)
        exact ⟨by rw [e1]; exact hn.al, by rw [e1]; exact hn.ac, by rw [e2]; exact hn.ch⟩
      · simp at h
    · simp at h
  split at h
  · split at h
    · simp only [Except.ok.injEq] at h; subst h; exact ⟨hn.al, hn.ac, hn.ch⟩
    · simp at h
  split at h
  · split at h
    · simp only [Except.ok.injEq] at h; subst h
      refine ⟨by have := hs.al; simp; omega, fun l hl => ?_, hn.ch⟩
      simp only [List.mem_append, List.mem_singleton] at hl
      rcases hl with hl | rfl
      · exact hn.ac l hl
      · simp
    · simp at h
  split at h
  · split at h
    · rename_i l hl
      simp only [Except.ok.injEq] at h; subst h
      refine ⟨hn.al, hn.ac, ?_⟩
      have h1 := nums_len _ _ hl
      have h2 := hs.ch
      simp only [List.length_append]
      rw [Nat.succ_mul]
      exact Nat.add_le_add h2 (by rw [h1]; exact hr)
    · simp at h
  split at h
  · simp at h
  · split at h
    · simp at h
    · rename_i a ha
      split at h
      · simp at h
      · simp only [Except.ok.injEq] at h; subst h
        obtain ⟨h1, h2⟩ := addAct_len s.acts a k hs.ac
        exact ⟨by rw [h1]; exact hn.al, h2, hn.ch⟩
end Go.Proofs.YtmkmkccdlopogaaGreatDoor.Con
