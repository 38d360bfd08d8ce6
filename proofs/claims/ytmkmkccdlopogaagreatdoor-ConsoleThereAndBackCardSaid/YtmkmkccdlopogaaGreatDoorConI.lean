/- The walk of console.number. -/
import Derived.Test.YtmkmkccdlopogaaGreatDoorProg
import Derived.Test.YtmkmkccdlopogaaGreatDoorConB
import Derived.Test.YtmkmkccdlopogaaGreatDoorConH
set_option linter.unusedVariables false
set_option linter.unusedSimpArgs false
namespace Go.Proofs.YtmkmkccdlopogaaGreatDoor.Con
open Go.RowKit

theorem digitsOf_trim (s : B) : Lib.trimPrefix s [45] = digitsOf s := by
  unfold Lib.trimPrefix digitsOf Lib.hasPrefix
  cases s with
  | nil => rfl
  | cons c t =>
    by_cases h : c = 45
    · subst h; simp [List.isPrefixOf]
    · have : ((45 : UInt8) == c) = false := by rw [beq_eq_false_iff_ne]; exact fun e => h e.symm
      simp [List.isPrefixOf, this, h]

theorem cut45 (s : ByteArray) (d : B) (hd : digitsOf s.data.toList = d) (w : World) :
    Calls Tryz.prog 57 #[.string s, .string ⟨#[45]⟩] w fun e w' => (∃ p, e = .returned (.tuple #[.string ⟨d.toArray⟩, .bool p])) ∧ w = w' :=
  (Tryz.strings_CutPrefix _ _ w).mono fun e w' ⟨he, hw⟩ => ⟨⟨Lib.hasPrefix s.data.toList [45], by rw [he, ← hd, ← digitsOf_trim]⟩, hw.symm⟩

def digs : B := [48, 49, 50, 51, 52, 53, 54, 55, 56, 57]
theorem digs_fin : ∀ i : Fin 256, digs.contains (UInt8.ofNat i.val) = isDig (UInt8.ofNat i.val) := by decide +kernel
theorem digs_has (c : UInt8) : digs.contains c = isDig c := by
  have := digs_fin ⟨c.toNat, c.toNat_lt⟩
  simpa using this
theorem dw_nil (p : UInt8 → Bool) (l : B) : l.dropWhile p = [] ↔ l.all p = true := by
  induction l with
  | nil => simp
  | cons c t ih => cases h : p c <;> simp [List.dropWhile, h, ih]
theorem trimS_nil (d : B) : Lib.trimS d digs = [] ↔ d.all isDig = true := by
  have e : (fun c => digs.contains c) = isDig := funext digs_has
  unfold Lib.trimS Lib.trimLeftS Lib.trimRightS
  rw [dw_nil]
  rw [show (fun x => digs.contains x) = isDig from e]
  rw [List.all_reverse]
  constructor
  · intro h
    cases hd : d.all isDig with
    | true => rfl
    | false =>
      exfalso
      have hr : d.reverse.all isDig = false := by rw [List.all_reverse]; exact hd
      have hne : d.reverse.dropWhile isDig ≠ [] := by rw [Ne, dw_nil, hr]; simp
      obtain ⟨c, t, ht⟩ : ∃ c t, d.reverse.dropWhile isDig = c :: t := by
        cases h2 : d.reverse.dropWhile isDig with
        | nil => exact absurd h2 hne
        | cons c t => exact ⟨c, t, rfl⟩
      have hc : isDig c = false := by
        have := List.head?_dropWhile_not isDig d.reverse
        rw [ht] at this
        simpa using this
      rw [ht] at h
      simp [hc] at h
  · intro h
    have : d.reverse.dropWhile isDig = [] := by rw [dw_nil, List.all_reverse]; exact h
    rw [this]; rfl

theorem trimDig (d : B) (b : Bool) (hb : d.all isDig = b) (w : World) (hs : d.length ≤ 1048576) :
    Calls Tryz.prog 58 #[.string ⟨d.toArray⟩, .string ⟨#[48, 49, 50, 51, 52, 53, 54, 55, 56, 57]⟩] w fun e w' => ∃ t : B, e = .returned (.string ⟨t.toArray⟩) ∧ t.isEmpty = b ∧ Below w.heap.size w w' := by
  refine (Tryz.strings_Trim_laid _ _ w (by simp [ByteArray.size]; omega) (by decide) (ascii_of_all (by decide))).mono fun e w' ⟨he, hw⟩ => ⟨_, he, ?_, hw⟩
  have := trimS_nil d
  cases b with
  | true => rw [List.isEmpty_iff]; exact this.2 hb
  | false =>
    rw [← Bool.not_eq_true, List.isEmpty_iff]
    intro h
    rw [this.1 h] at hb; simp at hb

theorem number_no {s d : B} (hd : digitsOf s = d) (h : d = [] ∨ 9 < d.length ∨ d.all isDig = false ∨ (d.head? = some 48 ∧ s ≠ [48])) : number ⟨s, false⟩ = none := by
  have : numOk ⟨s, false⟩ = false := by
    unfold numOk
    simp only [hd]
    rcases h with h | h | h | ⟨h1, h2⟩
    · simp [h]
    · have : decide (d.length ≤ 9) = false := by simp; omega
      simp [this]
    · simp [h]
    · have : (s == [48]) = false := by rw [beq_eq_false_iff_ne]; exact h2
      simp [h1, this]
  unfold number
  rw [this]; rfl
theorem number_yes {s d : B} (hd : digitsOf s = d) (h0 : d ≠ []) (h9 : d.length ≤ 9) (ha : d.all isDig = true) (h : ¬ (d.head? = some 48 ∧ s ≠ [48])) : ∃ n, Lib.atoi s = some n ∧ number ⟨s, false⟩ = some n ∧ s.length ≤ d.length + 1 := by
  have hdec : ∀ (l : B) (acc : Nat), l.all isDig = true → ∃ n, Lib.decFrom acc l = some n := by
    intro l
    induction l with
    | nil => intro acc _; exact ⟨acc, rfl⟩
    | cons c t ih =>
      intro acc hl
      simp only [List.all_cons, Bool.and_eq_true] at hl
      have hc := hl.1
      simp only [isDig, Bool.and_eq_true, decide_eq_true_eq] at hc
      have : Lib.digitVal c = some (c.toNat - 48) := by unfold Lib.digitVal; rw [if_pos hc]
      simp only [Lib.decFrom, this]
      exact ih _ hl.2
  have hok : numOk ⟨s, false⟩ = true := by
    unfold numOk
    simp only [hd]
    have e1 : d.isEmpty = false := by cases d with
      | nil => exact absurd rfl h0
      | cons => rfl
    have e2 : (d.head? == some 48 && !(s == [48])) = false := by
      by_cases h1 : d.head? = some 48
      · have : s = [48] := Decidable.byContradiction fun h2 => h ⟨h1, h2⟩
        simp [this]
      · simp [h1]
    simp [e1, h9, ha, e2]
  obtain ⟨n, hn⟩ := hdec d 0 ha
  have hnat : Lib.decNat d = some n := by
    unfold Lib.decNat
    cases d with
    | nil => exact absurd rfl h0
    | cons => simpa using hn
  unfold number
  rw [if_pos hok]
  cases s with
  | nil => simp [digitsOf] at hd; exact absurd (show d = [] from hd.symm ▸ rfl) h0
  | cons b t =>
    by_cases hb : b = 45
    · subst hb
      simp only [digitsOf, List.head?_cons, if_true, List.tail_cons] at hd
      subst hd
      exact ⟨-(n : Int), by simp [Lib.atoi, hnat], by simp [Lib.atoi, hnat], by simp⟩
    · simp only [digitsOf, List.head?_cons, Option.some.injEq, hb, if_false] at hd
      subst hd
      have hb43 : b ≠ 43 := by
        intro e; subst e
        simp [isDig] at ha
      exact ⟨(n : Int), by simp [Lib.atoi, hb, hb43, hnat], by simp [Lib.atoi, hb, hb43, hnat], by simp⟩

theorem bytesWorld_below (w : World) (t : ByteArray) (n : Nat) (h : n ≤ w.heap.size) : Below n w (Lib.bytesWorld w 5 t) := by
  unfold Lib.bytesWorld
  exact Lib.below_freeze ((Below.refl n w).drew.alloc h _) (p := ⟨w.heap.size, (Lib.bytesCells w 5 t).size, none⟩) h 1

def numV (o : Option Int) : Value := .tuple #[.int .i64 (o.getD 0), .bool o.isSome]
set_option maxRecDepth 100000 in
set_option maxHeartbeats 1000000 in
theorem number_q (s : ByteArray) (d : B) (HD : Hid (digitsOf s.data.toList = d)) (w : World) :
    Calls Tryz.prog 38 #[.agg #[.string s, .bool true]] w fun e w' => e = .returned (numV none) ∧ Below w.heap.size w w' := by
  have hb0 : Below w.heap.size w (w.alloc (.cells #[.string s, .bool true] 95)) := (Below.refl _ _).alloc (Nat.le_refl _) _
  go_enter Tryz.func38, Tryz.ntmps38
  go_wp2_with (first | (go_at_call 57; refine (cut45 _ _ HD.out _).mono ?_; rintro e w' ⟨⟨p, rfl⟩, rfl⟩))
  go_ret2
  exact ⟨rfl, hb0⟩
set_option maxRecDepth 100000 in
set_option maxHeartbeats 1000000 in
theorem number_nil (s : ByteArray) (HD : Hid (digitsOf s.data.toList = [])) (w : World) :
    Calls Tryz.prog 38 #[.agg #[.string s, .bool false]] w fun e w' => e = .returned (numV none) ∧ Below w.heap.size w w' := by
  have hb0 : Below w.heap.size w (w.alloc (.cells #[.string s, .bool false] 95)) := (Below.refl _ _).alloc (Nat.le_refl _) _
  go_enter Tryz.func38, Tryz.ntmps38
  go_wp2_with (first | (go_at_call 57; refine (cut45 _ _ HD.out _).mono ?_; rintro e w' ⟨⟨p, rfl⟩, rfl⟩))
  go_ret2
  exact ⟨rfl, hb0⟩
set_option maxRecDepth 100000 in
set_option maxHeartbeats 1000000 in
theorem number_9 (s : ByteArray) (c : UInt8) (r : B) (HD : Hid (digitsOf s.data.toList = c :: r)) (h9 : 9 < r.length + 1) (hs : r.length ≤ 1048576) (w : World) :
    Calls Tryz.prog 38 #[.agg #[.string s, .bool false]] w fun e w' => e = .returned (numV none) ∧ Below w.heap.size w w' := by
  have hb0 : Below w.heap.size w (w.alloc (.cells #[.string s, .bool false] 95)) := (Below.refl _ _).alloc (Nat.le_refl _) _
  go_enter Tryz.func38, Tryz.ntmps38
  go_wp2_with (first | (go_at_call 57; refine (cut45 _ _ HD.out _).mono ?_; rintro e w' ⟨⟨p, rfl⟩, rfl⟩))
  go_ret2
  exact ⟨rfl, hb0⟩
set_option maxRecDepth 100000 in
set_option maxHeartbeats 1000000 in
theorem number_nodig (s : ByteArray) (c : UInt8) (r : B) (HD : Hid (digitsOf s.data.toList = c :: r)) (h9 : r.length + 1 ≤ 9) (HA : Hid ((c :: r : B).all isDig = false)) (w : World) :
    Calls Tryz.prog 38 #[.agg #[.string s, .bool false]] w fun e w' => e = .returned (numV none) ∧ Below w.heap.size w w' := by
  have hb0 : Below w.heap.size w (w.alloc (.cells #[.string s, .bool false] 95)) := (Below.refl _ _).alloc (Nat.le_refl _) _
  go_enter Tryz.func38, Tryz.ntmps38
  go_wp2_with (first | (go_at_call 57; refine (cut45 _ _ HD.out _).mono ?_; rintro e w' ⟨⟨p, rfl⟩, rfl⟩) | (go_at_call 58; refine (trimDig _ _ HA.out _ (by simp; omega)).mono ?_; rintro e w1 ⟨t, rfl, ht, hb1⟩; have hc0 : w1.cell? ⟨w.heap.size, 0, none⟩ = some (.string s) := by rw [hb1.cell (by simp)]; simp))
  go_ret2
  exact ⟨rfl, hb0.trans (hb1.mono (by simp))⟩
set_option maxRecDepth 100000 in
set_option maxHeartbeats 1000000 in
theorem number_48 (s : ByteArray) (c : UInt8) (r : B) (HD : Hid (digitsOf s.data.toList = c :: r)) (h9 : r.length + 1 ≤ 9) (HA : Hid ((c :: r : B).all isDig = true)) (h48 : c.toNat = 48) (hse : (s.toList == [48]) = false) (w : World) :
    Calls Tryz.prog 38 #[.agg #[.string s, .bool false]] w fun e w' => e = .returned (numV none) ∧ Below w.heap.size w w' := by
  have hb0 : Below w.heap.size w (w.alloc (.cells #[.string s, .bool false] 95)) := (Below.refl _ _).alloc (Nat.le_refl _) _
  have g0 : ∀ h, (ByteArray.mk (c :: r : B).toArray)[0]'h = c := fun _ => rfl
  go_enter Tryz.func38, Tryz.ntmps38
  go_wp2_with (first | (go_at_call 57; refine (cut45 _ _ HD.out _).mono ?_; rintro e w' ⟨⟨p, rfl⟩, rfl⟩) | (go_at_call 58; refine (trimDig _ _ HA.out _ (by simp; omega)).mono ?_; rintro e w1 ⟨t, rfl, ht, hb1⟩; have hc0 : w1.cell? ⟨w.heap.size, 0, none⟩ = some (.string s) := by rw [hb1.cell (by simp)]; simp))
  go_ret2
  exact ⟨rfl, hb0.trans (hb1.mono (by simp))⟩
set_option maxRecDepth 100000 in
set_option maxHeartbeats 1000000 in
theorem number_zero (c : UInt8) (r : B) (HD : Hid (digitsOf [48] = c :: r)) (h9 : r.length + 1 ≤ 9) (HA : Hid ((c :: r : B).all isDig = true)) (h48 : c.toNat = 48) (n : Int) (HN : Hid (Lib.atoi (ByteArray.mk #[48]).data.toList = some n)) (w : World) :
    Calls Tryz.prog 38 #[.agg #[.string ⟨#[48]⟩, .bool false]] w fun e w' => e = .returned (numV (some n)) ∧ Below w.heap.size w w' := by
  have hb0 : Below w.heap.size w (w.alloc (.cells #[.string ⟨#[48]⟩, .bool false] 95)) := (Below.refl _ _).alloc (Nat.le_refl _) _
  have g0 : ∀ h, (ByteArray.mk (c :: r : B).toArray)[0]'h = c := fun _ => rfl
  have hsz : (ByteArray.mk #[48]).size ≤ 18 := by decide
  go_enter Tryz.func38, Tryz.ntmps38
  go_wp2_with (first | (go_at_call 57; refine (cut45 _ _ HD.out _).mono ?_; rintro e w' ⟨⟨p, rfl⟩, rfl⟩) | (go_at_call 58; refine (trimDig _ _ HA.out _ (by simp; omega)).mono ?_; rintro e w1 ⟨t, rfl, ht, hb1⟩; have hc0 : w1.cell? ⟨w.heap.size, 0, none⟩ = some (.string ⟨#[48]⟩) := by rw [hb1.cell (by simp)]; simp) | (go_at_call 59; refine (Tryz.strconv_Atoi _ _ hsz HN.out _).mono ?_; rintro e w2 ⟨rfl, t2, rfl⟩))
  go_ret2
  exact ⟨rfl, (hb0.trans (hb1.mono (by simp))).trans (bytesWorld_below w1 t2 _ (by have := hb1.size; simp at this; omega))⟩
set_option maxRecDepth 100000 in
set_option maxHeartbeats 1000000 in
theorem number_ok (s : ByteArray) (c : UInt8) (r : B) (HD : Hid (digitsOf s.data.toList = c :: r)) (h9 : r.length + 1 ≤ 9) (HA : Hid ((c :: r : B).all isDig = true)) (h48 : ¬ c.toNat = 48) (hsz : s.size ≤ 18) (n : Int) (HN : Hid (Lib.atoi s.data.toList = some n)) (w : World) :
    Calls Tryz.prog 38 #[.agg #[.string s, .bool false]] w fun e w' => e = .returned (numV (some n)) ∧ Below w.heap.size w w' := by
  have hb0 : Below w.heap.size w (w.alloc (.cells #[.string s, .bool false] 95)) := (Below.refl _ _).alloc (Nat.le_refl _) _
  have g0 : ∀ h, (ByteArray.mk (c :: r : B).toArray)[0]'h = c := fun _ => rfl
  go_enter Tryz.func38, Tryz.ntmps38
  go_wp2_with (first | (go_at_call 57; refine (cut45 _ _ HD.out _).mono ?_; rintro e w' ⟨⟨p, rfl⟩, rfl⟩) | (go_at_call 58; refine (trimDig _ _ HA.out _ (by simp; omega)).mono ?_; rintro e w1 ⟨t, rfl, ht, hb1⟩; have hc0 : w1.cell? ⟨w.heap.size, 0, none⟩ = some (.string s) := by rw [hb1.cell (by simp)]; simp) | (go_at_call 59; refine (Tryz.strconv_Atoi _ _ hsz HN.out _).mono ?_; rintro e w2 ⟨rfl, t2, rfl⟩))
  go_ret2
  exact ⟨rfl, (hb0.trans (hb1.mono (by simp))).trans (bytesWorld_below w1 t2 _ (by have := hb1.size; simp at this; omega))⟩
theorem number_any (s : ByteArray) (q : Bool) (w : World) (hs : s.size ≤ 1048576) :
    Calls Tryz.prog 38 #[.agg #[.string s, .bool q]] w fun e w' => e = .returned (numV (number ⟨s.data.toList, q⟩)) ∧ Below w.heap.size w w' := by
  cases q with
  | true =>
    have e : number ⟨s.data.toList, true⟩ = none := by simp [number, numOk]
    rw [e]; exact number_q s _ (Lib.hid rfl) w
  | false =>
    obtain ⟨d, hd⟩ : ∃ d, digitsOf s.data.toList = d := ⟨_, rfl⟩
    have hdl : d.length ≤ s.size := by rw [← hd]; unfold digitsOf; split <;> simp
    cases d with
    | nil => rw [number_no hd (.inl rfl)]; exact number_nil s (Lib.hid hd) w
    | cons c r =>
      simp only [List.length_cons] at hdl
      by_cases h9 : r.length + 1 ≤ 9
      · cases hall : (c :: r : B).all isDig with
        | false => rw [number_no hd (.inr (.inr (.inl hall)))]; exact number_nodig s c r (Lib.hid hd) h9 (Lib.hid hall) w
        | true =>
          by_cases h48 : c.toNat = 48
          · have c48 : c = 48 := by apply UInt8.toNat_inj.1; rw [h48]; rfl
            by_cases hs48 : s.data.toList = [48]
            · obtain ⟨n, hn, hnum, _⟩ := number_yes hd (by simp) (by simpa using h9) hall (fun h => h.2 hs48)
              rw [hnum]
              have es : s = ⟨#[48]⟩ := by rw [← Lib.mk_data s, hs48]
              subst es
              exact number_zero c r (Lib.hid hd) h9 (Lib.hid hall) h48 n (Lib.hid hn) w
            · rw [number_no hd (.inr (.inr (.inr ⟨by simp [c48], hs48⟩)))]
              refine number_48 s c r (Lib.hid hd) h9 (Lib.hid hall) h48 ?_ w
              rw [beq_eq_false_iff_ne, Lib.toList_data]; exact hs48
          · obtain ⟨n, hn, hnum, hln⟩ := number_yes hd (by simp) (by simpa using h9) hall (by simp; intro e; subst e; exact absurd rfl h48)
            rw [hnum]
            refine number_ok s c r (Lib.hid hd) h9 (Lib.hid hall) h48 ?_ n (Lib.hid hn) w
            rw [Lib.size_eq]; simp only [List.length_cons] at hln; omega
      · rw [number_no hd (.inr (.inl (by simp; omega)))]; exact number_9 s c r (Lib.hid hd) (by omega) (by omega) w
end Go.Proofs.YtmkmkccdlopogaaGreatDoor.Con
