import Derived.Test.YtmkmkccdlopogaaGreatDoorConPb
import Derived.Test.YtmkmkccdlopogaaGreatDoorConSb
/- Plain: a script that was read can be shown. -/
set_option linter.unusedVariables false
set_option linter.unusedSimpArgs false
namespace Go.Proofs.YtmkmkccdlopogaaGreatDoor.Con
open Go

def cnt (l : List (List Act)) : Nat := (l.map fun m => m.length + 1).sum
theorem cnt_add : ∀ (l : List (List Act)) (a : Act), cnt (addAct l a) ≤ cnt l + 1
  | [], a => by simp [addAct, cnt]
  | [m], a => by simp [addAct, cnt]
  | m :: m2 :: l, a => by
    have := cnt_add (m2 :: l) a
    simp only [addAct, cnt, List.map_cons, List.sum_cons] at this ⊢
    omega
theorem cnt_line {s s1 : Script} {w : Field} {rest : List Field} (h : lineS s w rest = .ok s1) : cnt s1.acts ≤ cnt s.acts + 1 := by
  unfold lineS at h
  split at h
  · simp at h
  split at h
  · split at h
    · split at h
      · simp only [Except.ok.injEq] at h
        subst h
        rename_i n _
        rw [(setNum_keeps (s := s) (w := w.text) (n := n)).1]; omega
      · simp at h
    · simp at h
  split at h
  · split at h
    · simp only [Except.ok.injEq] at h; subst h; simp
    · simp at h
  split at h
  · split at h
    · simp only [Except.ok.injEq] at h; subst h; simp [cnt]
    · simp at h
  split at h
  · split at h
    · simp only [Except.ok.injEq] at h; subst h; simp
    · simp at h
  split at h
  · simp at h
  · split at h
    · simp at h
    · split at h
      · simp at h
      · simp only [Except.ok.injEq] at h; subst h
        exact cnt_add _ _
theorem parseLines_cnt : ∀ (ls : List B) (i : Nat) (s s1 : Script) (l : Nat), parseLines ls i s = (s1, 0, l) → cnt s1.acts ≤ cnt s.acts + ls.length
  | [], i, s, s1, l, h => by simp only [parseLines, Prod.mk.injEq] at h; rw [← h.1]; simp
  | x :: ls, i, s, s1, l, h => by
    simp only [parseLines] at h
    simp only [List.length_cons]
    split at h
    · have := parseLines_cnt ls _ s s1 l h; omega
    · split at h
      · simp at h
      · have := parseLines_cnt ls _ s s1 l h; omega
      · split at h
        · rename_i e he
          simp only [Prod.mk.injEq] at h
          exact absurd h.2.1 (lineS_code he)
        · rename_i s2 hl
          have h1 := parseLines_cnt ls _ s2 s1 l h
          have h2 := cnt_line hl
          omega
theorem parse_cnt {t : B} {s : Script} {l : Nat} (h : parse t = (s, 0, l)) : cnt s.acts ≤ 1048577 := by
  unfold parse at h
  split at h
  · simp at h
  · rename_i hl
    have hn := splitNl_len t
    obtain ⟨n, hn1, hn2, -, -⟩ := linesOf_take t
    have h1 := parseLines_cnt _ _ _ _ _ h
    have h3 : (linesOf t).length ≤ 1048577 := by rw [hn1, List.length_take]; omega
    have h4 : cnt Script.zero.acts = 0 := rfl
    omega

theorem itoa_len {n : Int} (h : Small n) : (Lib.itoa n).length ≤ 10 := by
  have hu : n.natAbs < 10 ^ 9 := by have := h.1; have := h.2; omega
  have hlen : (Lib.decDigits n.natAbs).length ≤ 9 := by rw [Lib.decDigits_length]; exact nDigits_le (by omega) hu
  have hd := digitsOf_itoa n
  unfold digitsOf at hd
  split at hd
  · have := congrArg List.length hd
    simp only [List.length_tail] at this
    omega
  · rw [hd]; omega
theorem quote_len (x : B) : (quote x).length ≤ 4 * x.length + 2 := by
  have := qbody_len x
  simp only [quote, List.length_append, List.length_cons, List.length_nil]
  omega
def tsum (ts : List B) : Nat := (ts.map fun t => t.length + 1).sum
theorem joinB_len : ∀ ts : List B, (joinB ts).length ≤ tsum ts
  | [] => by simp [joinB, tsum]
  | [x] => by simp [joinB, tsum]
  | x :: y :: l => by
    have := joinB_len (y :: l)
    simp only [joinB, List.length_append, List.length_cons, tsum, List.map_cons, List.sum_cons] at this ⊢
    omega
theorem tsum_app (a b : List B) : tsum (a ++ b) = tsum a + tsum b := by simp [tsum]
theorem tsum_cons (x : B) (b : List B) : tsum (x :: b) = x.length + 1 + tsum b := by simp [tsum]
theorem tsum_le (ts : List B) (m : Nat) (h : ∀ t ∈ ts, t.length ≤ m) : tsum ts ≤ ts.length * (m + 1) := by
  induction ts with
  | nil => simp [tsum]
  | cons x ts ih =>
    have h1 := ih (fun t ht => h t (List.mem_cons_of_mem _ ht))
    have h2 := h x (List.mem_cons_self)
    rw [tsum_cons, List.length_cons, Nat.succ_mul]
    omega
theorem tsum_quote (l : List B) : tsum (l.map quote) ≤ 4 * (l.map fun x => x.length + 1).sum := by
  induction l with
  | nil => simp [tsum]
  | cons x l ih =>
    have := quote_len x
    simp only [List.map_cons, tsum_cons, List.sum_cons]
    omega
theorem outOf_len (ls : List (List B)) (m : Nat) (h : ∀ l ∈ ls, (joinB l).length ≤ m) : (outOf ls).length ≤ ls.length * (m + 1) := by
  induction ls with
  | nil => simp [outOf]
  | cons x ls ih =>
    have h1 := ih (fun t ht => h t (List.mem_cons_of_mem _ ht))
    have h2 := h x (List.mem_cons_self)
    have e : outOf (x :: ls) = (joinB x ++ [10]) ++ outOf ls := rfl
    rw [e, List.length_append, List.length_append, List.length_cons, List.length_cons, List.length_nil, Nat.succ_mul]
    omega
theorem verbs_word : ∀ p ∈ verbs, p.1.length ≤ 6 := by decide
theorem act_sum {a : Act} {m : Nat} (h : AW m a) : tsum (actTexts a) ≤ 24 * m + 200 := by
  have hs := h.sum
  have h2 : (verbs.getD (a.kind.toNat - 1) ([], [])).2.length ≤ 2 ∧ (verbs.getD (a.kind.toNat - 1) ([], [])).1.length ≤ 6 := by
    rw [List.getD_eq_getElem?_getD]
    cases hv : verbs[a.kind.toNat - 1]? with
    | none => simp
    | some q => exact ⟨verbs_len2 q (List.mem_of_getElem? hv), verbs_word q (List.mem_of_getElem? hv)⟩
  unfold actTexts
  generalize verbs.getD (a.kind.toNat - 1) ([], []) = v at h2
  have q1 := quote_len a.path
  have q2 := quote_len a.«to»
  have q3 := quote_len a.data
  have q4 := quote_len a.job.output
  have q5 := quote_len a.job.program
  have i1 := itoa_len h.quota
  have i2 := itoa_len h.parts
  have i3 := itoa_len h.split
  have i4 := itoa_len h.spill
  have hargs : tsum (v.2.map (argText a)) ≤ v.2.length * (4 * m + 12 + 1) := by
    have := tsum_le (v.2.map (argText a)) (4 * m + 12) (fun t ht => by
      obtain ⟨c, -, rfl⟩ := List.mem_map.1 ht
      unfold argText
      split
      · omega
      · split
        · omega
        · split <;> omega)
    simpa using this
  have h3 : v.2.length * (4 * m + 12 + 1) ≤ 2 * (4 * m + 12 + 1) := Nat.mul_le_mul_right _ h2.1
  simp only [argTexts_map, List.cons_append, tsum_cons, tsum_app]
  split
  · have h4 := tsum_quote a.job.inputs
    simp only [tsum_app, tsum_cons]
    have e : tsum ([] : List B) = 0 := rfl
    rw [e]
    omega
  · have e : tsum ([] : List B) = 0 := rfl
    rw [e]
    omega
theorem linesC_len : ∀ l : List (List Act), (linesC l).length ≤ cnt l
  | [] => by simp [linesC, cnt]
  | m :: l => by
    have h1 := linesC_len l
    have h2 : (actLines m).length ≤ m.length := by unfold actLines; rw [List.length_map]; exact List.length_filter_le _ _
    have e : linesC (m :: l) = ([wClient] :: actLines m) ++ linesC l := by simp [linesC]
    have e2 : cnt (m :: l) = m.length + 1 + cnt l := by simp [cnt]
    rw [e, e2, List.length_append, List.length_cons]
    omega
theorem small_I64 {n : Int} (h : Small n) : I64 n := by
  have := h.1
  have := h.2
  constructor <;> omega
theorem mem_sum_le : ∀ (l : List B) (x : B), x ∈ l → x.length + 1 ≤ (l.map fun x => x.length + 1).sum
  | y :: l, x, h => by
    rcases List.mem_cons.1 h with rfl | h
    · simp
    · have := mem_sum_le l x h; simp; omega
theorem len_sum_le : ∀ (l : List B), l.length ≤ (l.map fun x => x.length + 1).sum
  | [] => by simp
  | y :: l => by have := len_sum_le l; simp; omega
theorem AW.ok {a : Act} (h : AW 1048576 a) : ActOK a := by
  have hs := h.sum
  have h1 := len_sum_le a.job.inputs
  exact ⟨h.kind, by omega, by omega, by omega, small_I64 h.quota, by omega, by omega, by omega, fun x hx => by have := mem_sum_le _ x hx; omega, small_I64 h.parts, small_I64 h.split, small_I64 h.spill⟩
theorem show_len {s : Script} (hw : WF s) (ha : AWs s) (hc : cnt s.acts ≤ 1048577) (hch : s.choices.length ≤ 1099512676352) : (showS s).length ≤ 70368744177664 := by
  rw [showS_out, showLines_rest]
  have e : ∀ (a b c d e : List B) (r : List (List B)), outOf (a :: b :: c :: d :: e :: r) = outOf [a, b, c, d, e] ++ outOf r := fun _ _ _ _ _ _ => by simp [outOf]
  rw [e, List.length_append]
  have l5 : (outOf [[wNodes, Lib.itoa s.nodes], [wReplicas, Lib.itoa s.replicas], [wBlock, Lib.itoa s.block], [wRoom, Lib.itoa s.room], [wRounds, Lib.itoa s.rounds]]).length ≤ 200 := by
    have h1 := itoa_len hw.n1
    have h2 := itoa_len hw.n2
    have h3 := itoa_len hw.n3
    have h4 := itoa_len hw.n4
    have h5 := itoa_len hw.n5
    simp [outOf, joinB, wNodes, wReplicas, wBlock, wRoom, wRounds] <;> omega
  have e2 : outOf (restL s) = outOf (if s.flips then [[wFlips]] else []) ++ (outOf (if s.choices = [] then [] else [wChoose :: s.choices.map Lib.itoa]) ++ outOf (linesC s.acts)) := by simp [restL, restC, outOf]
  rw [e2, List.length_append, List.length_append]
  have lf : (outOf (if s.flips then [[wFlips]] else [])).length ≤ 10 := by split <;> simp [outOf, joinB, wFlips]
  have lc : (outOf (if s.choices = [] then [] else [wChoose :: s.choices.map Lib.itoa])).length ≤ 10 + s.choices.length * 11 := by
    split
    · simp [outOf]
    · have h1 := joinB_len (wChoose :: s.choices.map Lib.itoa)
      have h2 := tsum_le (s.choices.map Lib.itoa) 10 (fun t ht => by
        obtain ⟨n, hn, rfl⟩ := List.mem_map.1 ht
        exact itoa_len (hw.ch n hn))
      rw [tsum_cons] at h1
      rw [List.length_map] at h2
      have h3 : wChoose.length = 6 := rfl
      simp only [outOf, List.flatMap_cons, List.flatMap_nil, List.length_append, List.length_cons, List.length_nil]
      omega
  have lr : (outOf (linesC s.acts)).length ≤ (linesC s.acts).length * (25166248 + 1) := by
    refine outOf_len _ _ (fun l hl => ?_)
    unfold linesC at hl
    rw [List.mem_flatMap] at hl
    obtain ⟨m, hm, hl⟩ := hl
    rcases List.mem_cons.1 hl with rfl | hl
    · simp [joinB, wClient]
    · unfold actLines at hl
      obtain ⟨a, hma, rfl⟩ := List.mem_map.1 hl
      have h1 := joinB_len (actTexts a)
      have h2 := act_sum (ha m hm a (List.mem_filter.1 hma).1)
      omega
  have h5 := linesC_len s.acts
  have h6 : (linesC s.acts).length * (25166248 + 1) ≤ 1048577 * (25166248 + 1) := Nat.mul_le_mul_right _ (Nat.le_trans h5 hc)
  omega
theorem parse_SOK {t : B} {s : Script} {l : Nat} (h : parse t = (s, 0, l)) : SOK s := by
  have hw := parse_WF h
  obtain ⟨ha, hb⟩ := parse_AW h
  have hc := parse_cnt h
  exact ⟨small_I64 hw.n1, small_I64 hw.n2, small_I64 hw.n3, small_I64 hw.n4, small_I64 hw.n5, fun n hn => small_I64 (hw.ch n hn), by have := hb.ch; omega, by have := hb.al; omega, fun l hl => by have := hb.ac l hl; omega,
    fun l hl a hal _ => (ha l hl a hal).ok, fun l hl a hal => by have := (ha l hl a hal).kind; constructor <;> omega, show_len hw ha hc (by have := hb.ch; omega)⟩
end Go.Proofs.YtmkmkccdlopogaaGreatDoor.Con
