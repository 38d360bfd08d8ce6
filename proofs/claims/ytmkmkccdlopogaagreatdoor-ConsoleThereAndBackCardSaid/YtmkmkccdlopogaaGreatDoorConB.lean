import Derived.Test.YtmkmkccdlopogaaGreatDoorConA
set_option linter.unusedVariables false
set_option linter.unusedSimpArgs false
namespace Go.Proofs.YtmkmkccdlopogaaGreatDoor.Con
open Go

/-! ### a quoted text is read back -/
theorem hexd_ok : ∀ n : Fin 16, hexv (hexd n.val) = some n.val := by decide
theorem u8_split (c : UInt8) : UInt8.ofNat (c.toNat / 16 * 16 + c.toNat % 16) = c := by
  have h : c.toNat / 16 * 16 + c.toNat % 16 = c.toNat := by omega
  rw [h]; simp

theorem unq_quote (s : B) : ∀ (i : Nat) (out r : B), unq (qbody s ++ 34 :: r) i out = some (out ++ s, i + (qbody s).length + 1) := by
  induction s with
  | nil =>
    intro i out r
    simp only [qbody, List.flatMap_nil, List.nil_append, List.length_nil, List.append_nil, Nat.add_zero]
    rw [unq.eq_def]; simp
  | cons c s ih =>
    intro i out r
    have hq : qbody (c :: s) = qb c ++ qbody s := by simp [qbody]
    rw [hq, List.append_assoc]
    unfold qb
    split
    · rename_i h
      simp only [List.cons_append, List.nil_append]
      rw [unq.eq_def]
      simp only [show ((92 : UInt8) = 34) = False by decide, if_false, show ((92 : UInt8).toNat < 32 ∨ 126 < (92 : UInt8).toNat) = False by decide, ne_eq, not_true_eq_false, h, if_true]
      rw [ih]
      simp; omega
    · rename_i h
      split
      · rename_i h2
        have hc := c.toNat_lt
        have e1 := hexd_ok ⟨c.toNat / 16, by omega⟩
        have e2 := hexd_ok ⟨c.toNat % 16, by omega⟩
        simp only [List.cons_append, List.nil_append]
        rw [unq.eq_def]
        simp only [show ((92 : UInt8) = 34) = False by decide, if_false, show ((92 : UInt8).toNat < 32 ∨ 126 < (92 : UInt8).toNat) = False by decide, ne_eq, not_true_eq_false,
          show ((120 : UInt8) = 34 ∨ (120 : UInt8) = 92) = False by decide, if_true, e1, e2]
        rw [ih, u8_split]
        simp; omega
      · rename_i h2
        simp only [List.cons_append, List.nil_append]
        have h34 : ¬ c = 34 := fun e => h (.inl e)
        have h92 : ¬ c = 92 := fun e => h (.inr e)
        rw [unq.eq_def]
        simp only [h34, if_false, h2, ne_eq, h92, not_false_eq_true, if_true]
        rw [ih]
        simp; omega

/-! ### fields with blanks between -/
def joinG (g : Nat) : List B → B
  | [] => []
  | [x] => x
  | x :: y :: l => x ++ (List.replicate (g + 1) 32 ++ joinG g (y :: l))

theorem joinG_zero (l : List B) : joinG 0 l = joinB l := by
  induction l with
  | nil => rfl
  | cons x l ih => cases l with
    | nil => rfl
    | cons y l => simp only [joinG, joinB]; rw [ih]; simp

theorem joinG_cons (g : Nat) (x : B) (l : List B) : joinG g (x :: l) = x ++ (if l = [] then [] else List.replicate (g + 1) 32 ++ joinG g l) := by
  cases l with
  | nil => simp [joinG]
  | cons y l => simp [joinG]

def ftext (f : Field) : B := if f.quoted then quote f.text else f.text
def OkF (f : Field) : Prop := f.quoted = true ∨ (f.text ≠ [] ∧ ∀ c ∈ f.text, c ≠ 32 ∧ c ≠ 34)

theorem blanks_rep (b : Nat) (t : B) : blanks (List.replicate b 32 ++ t) = b + blanks t := by
  induction b with
  | zero => simp
  | succ b ih => simp only [List.replicate_succ, List.cons_append, blanks, if_true, ih]; omega

theorem plainLen_app (x t : B) (hx : ∀ c ∈ x, c ≠ 32 ∧ c ≠ 34) (ht : plainLen t = 0) : plainLen (x ++ t) = x.length := by
  induction x with
  | nil => simpa using ht
  | cons c x ih =>
    have hc := hx c (by simp)
    simp only [List.cons_append, plainLen, hc.1, hc.2, or_self, if_false, List.length_cons]
    rw [ih (fun d hd => hx d (by simp [hd]))]

theorem cutF_lay (g : Nat) (fs : List Field) : (∀ f ∈ fs, OkF f) → ∀ (n b : Nat), fs.length < n → cutF n (List.replicate b 32 ++ joinG g (fs.map ftext)) = some fs := by
  induction fs with
  | nil =>
    intro _ n b hn
    obtain ⟨n, rfl⟩ : ∃ m, n = m + 1 := ⟨n - 1, by omega⟩
    have e : blanks (List.replicate b (32 : UInt8) ++ []) = b := by rw [blanks_rep]; simp [blanks]
    simp only [List.map_nil, joinG, cutF, e]
    simp
  | cons f fs ih =>
    intro hok n b hn
    obtain ⟨n, rfl⟩ : ∃ m, n = m + 1 := ⟨n - 1, by omega⟩
    have hf := hok f (by simp)
    have ih' := ih (fun f hf => hok f (by simp [hf])) n
    simp only [List.length_cons] at hn
    rw [List.map_cons, joinG_cons]
    generalize ht : (if fs.map ftext = [] then [] else List.replicate (g + 1) (32 : UInt8) ++ joinG g (fs.map ftext)) = tail
    have hcut : cutF n tail = some fs := by
      rw [← ht]
      split
      · rename_i h0
        have := ih' 0 (by omega)
        rw [h0] at this
        simpa [joinG] using this
      · exact ih' (g + 1) (by omega)
    have hhead : tail.head?.getD 32 = 32 := by
      rw [← ht]; split
      · rfl
      · simp [List.replicate_succ]
    have hplain : plainLen tail = 0 := by
      rw [← ht]; split
      · rfl
      · simp [List.replicate_succ, plainLen]
    cases hq : f.quoted with
    | true =>
      have e1 : ftext f = 34 :: (qbody f.text ++ [34]) := by simp [ftext, hq, quote]
      have e2 : blanks (List.replicate b (32 : UInt8) ++ (34 :: (qbody f.text ++ [34]) ++ tail)) = b := by
        rw [blanks_rep]; simp [blanks]
      have e3 : (List.replicate b (32 : UInt8) ++ (34 :: (qbody f.text ++ [34]) ++ tail)).drop b = 34 :: (qbody f.text ++ 34 :: tail) := by
        rw [List.drop_left' (by simp)]; simp
      rw [e1]
      simp only [cutF, e2, e3, if_true, unq_quote]
      have e4 : (qbody f.text ++ 34 :: tail).drop (0 + (qbody f.text).length + 1) = tail := by
        rw [show qbody f.text ++ 34 :: tail = (qbody f.text ++ [34]) ++ tail by simp]
        exact List.drop_left' (by simp)
      rw [e4, if_pos hhead, hcut]
      simp
      rw [← hq]
    | false =>
      rcases hf with hf | ⟨hne, hall⟩
      · simp [hq] at hf
      have e1 : ftext f = f.text := by simp [ftext, hq]
      obtain ⟨c, x, hx⟩ : ∃ c x, f.text = c :: x := by
        cases h : f.text with
        | nil => exact absurd h hne
        | cons c x => exact ⟨c, x, rfl⟩
      have hc := hall c (by simp [hx])
      have e2 : blanks (List.replicate b (32 : UInt8) ++ (f.text ++ tail)) = b := by
        rw [blanks_rep, hx]; simp [blanks, hc.1]
      have e3 : (List.replicate b (32 : UInt8) ++ (f.text ++ tail)).drop b = c :: (x ++ tail) := by
        rw [List.drop_left' (by simp), hx]; simp
      have e5 : c :: (x ++ tail) = f.text ++ tail := by simp [hx]
      rw [e1]
      simp only [cutF, e2, e3, hc.2, if_false]
      rw [e5, plainLen_app f.text tail hall hplain, List.drop_left' rfl, List.take_left' rfl]
      rw [if_neg (by rw [hhead]; decide), hcut]
      simp
      rw [← hq]

theorem cut_lay (g : Nat) (fs : List Field) (h : ∀ f ∈ fs, OkF f) : cut (joinG g (fs.map ftext)) = some fs := by
  have hlen : fs.length ≤ (joinG g (fs.map ftext)).length := by
    induction fs with
    | nil => simp
    | cons f fs ih =>
      have hf := h f (by simp)
      have := ih (fun f hf => h f (by simp [hf]))
      rw [List.map_cons, joinG_cons]
      have h1 : 1 ≤ (ftext f).length := by
        rcases hf with hf | hf
        · simp [ftext, hf, quote]
        · cases hq : f.quoted with
          | true => simp [ftext, hq, quote]
          | false =>
            simp only [ftext, hq, Bool.false_eq_true, if_false]
            cases ht : f.text with
            | nil => exact absurd ht hf.1
            | cons => simp
      simp only [List.length_append, List.length_cons]
      split
      · rename_i h0
        have : fs = [] := by simpa using h0
        subst this; simp; omega
      · simp only [List.length_append, List.length_replicate]; omega
  have := cutF_lay g fs h ((joinG g (fs.map ftext)).length + 1) 0 (by omega)
  simpa [cut] using this

theorem cut_blanks (b : Nat) : cut (List.replicate b 32) = some [] := by
  have := cutF_lay 0 [] (by simp) (b + 1) b (by simp)
  simpa [cut, joinG] using this

/-! ### numbers -/
theorem digitVal_ok {u : Nat} (h : u < 10) : Lib.digitVal (UInt8.ofNat (48 + u)) = some u := by
  have : (UInt8.ofNat (48 + u)).toNat = 48 + u := by simp; omega
  unfold Lib.digitVal
  rw [this, if_pos (by omega)]
  simp

theorem decFrom_app (l : B) : ∀ (acc n : Nat) (c : UInt8) (d : Nat), Lib.decFrom acc l = some n → Lib.digitVal c = some d → Lib.decFrom acc (l ++ [c]) = some (n * 10 + d) := by
  induction l with
  | nil => intro acc n c d h hd; simp only [Lib.decFrom, Option.some.injEq] at h; subst h; simp [Lib.decFrom, hd]
  | cons a t ih =>
    intro acc n c d h hd
    simp only [Lib.decFrom, List.cons_append] at h ⊢
    cases ha : Lib.digitVal a with
    | none => simp [ha] at h
    | some e => simp only [ha] at h ⊢; exact ih _ _ _ _ h hd

theorem decFrom_digits (u : Nat) : Lib.decFrom 0 (Lib.decDigits u) = some u := by
  induction u using Nat.strongRecOn with
  | _ u ih =>
    by_cases h : u < 10
    · rw [Lib.decDigits, dif_pos h]
      simp only [Lib.decFrom, digitVal_ok h]; simp
    · rw [Lib.decDigits, dif_neg h]
      rw [decFrom_app _ _ _ _ _ (ih (u / 10) (by omega)) (digitVal_ok (show u % 10 < 10 by omega))]
      congr 1; omega

theorem decDigits_dig (u : Nat) : ∀ c ∈ Lib.decDigits u, isDig c = true := by
  induction u using Nat.strongRecOn with
  | _ u ih =>
    have key : ∀ v, v < 10 → isDig (UInt8.ofNat (48 + v)) = true := by
      intro v hv
      have : (UInt8.ofNat (48 + v)).toNat = 48 + v := by simp; omega
      simp only [isDig, this, Bool.and_eq_true, decide_eq_true_eq]; omega
    by_cases h : u < 10
    · rw [Lib.decDigits, dif_pos h]; intro c hc; simp only [List.mem_singleton] at hc; subst hc; exact key u h
    · rw [Lib.decDigits, dif_neg h]; intro c hc
      rw [List.mem_append] at hc
      rcases hc with hc | hc
      · exact ih _ (by omega) c hc
      · simp only [List.mem_singleton] at hc; subst hc; exact key _ (by omega)

theorem decDigits_ne (u : Nat) : Lib.decDigits u ≠ [] := by
  intro h; have := Lib.decDigits_length u; rw [h] at this; have := Lib.nDigits_pos u; simp at *; omega

theorem nDigits_le {u k : Nat} (hk : 1 ≤ k) (h : u < 10 ^ k) : Lib.nDigits u ≤ k := by
  induction k generalizing u with
  | zero => omega
  | succ k ih =>
    by_cases h10 : u < 10
    · rw [Lib.nDigits_small h10]; omega
    · rw [Lib.nDigits_big h10]
      have hk1 : 1 ≤ k := by
        rcases Nat.eq_zero_or_pos k with h0 | h0
        · subst h0; simp at h; omega
        · exact h0
      have := ih hk1 (u := u / 10) (by rw [Nat.pow_succ] at h; omega)
      omega

theorem decDigits_head (u : Nat) (h : 1 ≤ u) : (Lib.decDigits u).head? ≠ some 48 := by
  induction u using Nat.strongRecOn with
  | _ u ih =>
    by_cases h10 : u < 10
    · rw [Lib.decDigits, dif_pos h10]
      simp only [List.head?_cons, ne_eq, Option.some.injEq]
      intro e
      have := congrArg UInt8.toNat e
      simp at this; omega
    · rw [Lib.decDigits, dif_neg h10]
      have := ih (u / 10) (by omega) (by omega)
      cases hd : Lib.decDigits (u / 10) with
      | nil => exact absurd hd (decDigits_ne _)
      | cons a t => rw [hd] at this; simpa using this

def Small (n : Int) : Prop := -999999999 ≤ n ∧ n ≤ 999999999

theorem decDigits_ne45 (u : Nat) : (Lib.decDigits u).head? ≠ some 45 ∧ (Lib.decDigits u).head? ≠ some 43 := by
  cases hd : Lib.decDigits u with
  | nil => exact absurd hd (decDigits_ne _)
  | cons a t =>
    have := decDigits_dig u a (by simp [hd])
    simp only [isDig, Bool.and_eq_true, decide_eq_true_eq] at this
    constructor <;>
    · simp only [List.head?_cons, ne_eq, Option.some.injEq]
      intro e; subst e; simp at this

theorem atoi_digits (u : Nat) : Lib.atoi (Lib.decDigits u) = some (u : Int) := by
  have hne := decDigits_ne45 u
  have hdec := decFrom_digits u
  cases hd : Lib.decDigits u with
  | nil => exact absurd hd (decDigits_ne _)
  | cons a t =>
    rw [hd] at hne hdec
    simp only [List.head?_cons, ne_eq, Option.some.injEq] at hne
    simp only [Lib.atoi, beq_iff_eq, hne.1, hne.2, if_false, Lib.decNat, List.isEmpty_cons, Bool.false_eq_true, hdec, Option.map_some]

theorem atoi_itoa (n : Int) : Lib.atoi (Lib.itoa n) = some n := by
  unfold Lib.itoa
  split
  · rename_i h
    simp only [Lib.atoi, beq_self_eq_true, if_true, Lib.decNat]
    have : (Lib.decDigits n.natAbs).isEmpty = false := by
      cases hd : Lib.decDigits n.natAbs with
      | nil => exact absurd hd (decDigits_ne _)
      | cons => rfl
    rw [this]
    simp only [Bool.false_eq_true, if_false, decFrom_digits, Option.map_some, Option.some.injEq]
    omega
  · rename_i h
    rw [atoi_digits]
    simp; omega

theorem digitsOf_itoa (n : Int) : digitsOf (Lib.itoa n) = Lib.decDigits n.natAbs := by
  unfold Lib.itoa digitsOf
  split
  · simp
  · rename_i h
    rw [if_neg (decDigits_ne45 _).1]
    congr 1; omega

theorem number_itoa (n : Int) (h : Small n) : number ⟨Lib.itoa n, false⟩ = some n := by
  have hu : n.natAbs < 10 ^ 9 := by have := h.1; have := h.2; omega
  have hlen : (Lib.decDigits n.natAbs).length ≤ 9 := by rw [Lib.decDigits_length]; exact nDigits_le (by omega) hu
  have hok : numOk ⟨Lib.itoa n, false⟩ = true := by
    unfold numOk
    simp only [digitsOf_itoa, Bool.not_false, Bool.true_and]
    have h1 : (Lib.decDigits n.natAbs).isEmpty = false := by
      cases hd : Lib.decDigits n.natAbs with
      | nil => exact absurd hd (decDigits_ne _)
      | cons => rfl
    have h2 : (Lib.decDigits n.natAbs).all isDig = true := by rw [List.all_eq_true]; exact decDigits_dig _
    have h3 : ((Lib.decDigits n.natAbs).head? == some 48 && !(Lib.itoa n == [48])) = false := by
      rcases Nat.eq_zero_or_pos n.natAbs with h0 | h0
      · have : n = 0 := by omega
        subst this
        have e : Lib.decDigits 0 = [48] := Lib.decDigits_one (by omega)
        have e2 : Lib.itoa 0 = [48] := by unfold Lib.itoa; rw [if_neg (by omega)]; exact e
        simp [e2]
      · have := decDigits_head _ h0
        simp [this]
    simp only [h1, h2, h3, hlen, decide_true, Bool.not_false, Bool.and_true]
  unfold number
  rw [if_pos hok]
  exact atoi_itoa n

theorem itoa_plain (n : Int) : OkF ⟨Lib.itoa n, false⟩ ∧ ∀ c ∈ Lib.itoa n, c ≠ 10 ∧ c ≠ 32 ∧ c ≠ 34 ∧ c ≠ 92 := by
  have key : ∀ c ∈ Lib.itoa n, c ≠ 10 ∧ c ≠ 32 ∧ c ≠ 34 ∧ c ≠ 92 := by
    have hd : ∀ u, ∀ c ∈ Lib.decDigits u, c ≠ 10 ∧ c ≠ 32 ∧ c ≠ 34 ∧ c ≠ 92 := by
      intro u c hc
      have := decDigits_dig u c hc
      simp only [isDig, Bool.and_eq_true, decide_eq_true_eq] at this
      refine ⟨?_, ?_, ?_, ?_⟩ <;> (intro e; subst e; simp at this)
    intro c hc
    unfold Lib.itoa at hc
    split at hc
    · rw [List.mem_cons] at hc
      rcases hc with rfl | hc
      · decide
      · exact hd _ c hc
    · exact hd _ c hc
  refine ⟨.inr ⟨?_, fun c hc => ⟨(key c hc).2.1, (key c hc).2.2.1⟩⟩, key⟩
  unfold Lib.itoa
  split
  · simp
  · exact decDigits_ne _

theorem decFrom_lt (l : B) : ∀ (acc n : Nat), Lib.decFrom acc l = some n → n < (acc + 1) * 10 ^ l.length := by
  induction l with
  | nil => intro acc n h; simp only [Lib.decFrom, Option.some.injEq] at h; subst h; simp
  | cons a t ih =>
    intro acc n h
    simp only [Lib.decFrom] at h
    cases ha : Lib.digitVal a with
    | none => simp [ha] at h
    | some e =>
      simp only [ha] at h
      have h1 := ih _ _ h
      have he : e < 10 := by
        unfold Lib.digitVal at ha
        split at ha
        · simp only [Option.some.injEq] at ha; omega
        · simp at ha
      refine Nat.lt_of_lt_of_le h1 ?_
      rw [List.length_cons, Nat.pow_succ, Nat.mul_comm (10 ^ t.length) 10, ← Nat.mul_assoc]
      exact Nat.mul_le_mul_right _ (by omega)

theorem number_small {f : Field} {n : Int} (h : number f = some n) : Small n := by
  unfold number at h
  split at h
  · rename_i hok
    unfold numOk at hok
    simp only [Bool.and_eq_true, decide_eq_true_eq] at hok
    have hl := hok.1.1.2
    have hdig := hok.1.2
    have key : ∀ l : B, l.length ≤ 9 → ∀ m, Lib.decNat l = some m → m ≤ 999999999 := by
      intro l hl m hm
      unfold Lib.decNat at hm
      split at hm
      · simp at hm
      · have := decFrom_lt l 0 m hm
        have h9 : 10 ^ l.length ≤ 10 ^ 9 := Nat.pow_le_pow_right (by omega) hl
        omega
    cases ht : f.text with
    | nil => rw [ht] at h; simp [Lib.atoi] at h
    | cons b r =>
      rw [ht] at h hl hdig
      simp only [Lib.atoi, beq_iff_eq] at h
      split at h
      · rename_i hb
        subst hb
        simp only [digitsOf, List.head?_cons, if_true, List.tail_cons] at hl
        cases hd : Lib.decNat r with
        | none => simp [hd] at h
        | some m =>
          simp only [hd, Option.map_some, Option.some.injEq] at h
          have := key r hl m hd
          subst h; constructor <;> omega
      · rename_i hb
        simp only [digitsOf, List.head?_cons, Option.some.injEq, hb, if_false] at hl hdig
        split at h
        · rename_i hb3
          subst hb3
          simp [isDig] at hdig
        · cases hd : Lib.decNat (b :: r) with
          | none => simp [hd] at h
          | some m =>
            simp only [hd, Option.map_some, Option.some.injEq] at h
            have := key _ hl m hd
            subst h; constructor <;> omega
  · simp at h
end Go.Proofs.YtmkmkccdlopogaaGreatDoor.Con
