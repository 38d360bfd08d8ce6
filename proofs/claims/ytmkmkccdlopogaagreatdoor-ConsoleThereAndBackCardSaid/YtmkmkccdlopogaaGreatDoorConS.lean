/- The walk of (*reader).line: all but the acts. -/
import Derived.Test.YtmkmkccdlopogaaGreatDoorProg
import Derived.Test.YtmkmkccdlopogaaGreatDoorConQ
set_option linter.unusedVariables false
set_option linter.unusedSimpArgs false
namespace Go.Proofs.YtmkmkccdlopogaaGreatDoor.Con
open Go.RowKit

/-- what stands at the beginning of a line's walk -/
theorem head_cells {w : World} {fv : Value} {f : Field} {fs : List Field} (hf : FieldsAt w fv (f :: fs)) : ∃ g o c, fv = .slice (some ⟨g, o, none⟩) (fs.length + 1) c ∧ fs.length + 1 ≤ c ∧ w.cell? ⟨g, o, none⟩ = some (.string ⟨f.text.toArray⟩) ∧ w.cell? ⟨g, o + 1, none⟩ = some (.bool f.quoted) := by
  obtain ⟨g, o, c, e, hc, k⟩ := hf.cells (by simp)
  obtain ⟨k1, k2⟩ := k 0 (by simp)
  refine ⟨g, o, c, by rw [e]; simp, by simpa using hc, ?_, ?_⟩
  · simpa using k1
  · simpa using k2

theorem fr_drewN (w : World) (n : Nat) : Fr TL w (w.drewN n) := (Fr.refl _ _).drewN n
theorem below_drewN (B : Nat) (w : World) (n : Nat) : Below B w (w.drewN n) := ⟨rfl, rfl, rfl, Nat.le_refl _, fun _ _ => rfl⟩
/-- f[1:] keeps its address at the end of its row -/
theorem rest_cases {w : World} {g o c : Nat} {f : Field} {fs : List Field} (hf : FieldsAt w (.slice (some ⟨g, o, none⟩) (fs.length + 1) c) (f :: fs)) : (fs = [] ∧ c = 1) ∨ (¬ c = 1 ∧ ∀ W n, W = w.drewN n → FieldsAt W (.slice (some ⟨g, o + 2, none⟩) fs.length (c - 1)) fs) := by
  have h2 := hf
  obtain ⟨_, _, e, hc, _⟩ := h2
  injection e with e1 e2 e3
  subst e3
  simp only [List.length_cons] at hc
  by_cases hc1 : c = 1
  · refine .inl ⟨?_, hc1⟩
    cases fs with
    | nil => rfl
    | cons => simp at hc; omega
  · refine .inr ⟨hc1, ?_⟩
    rintro W n rfl
    have := hf.drop 1 (o + 2) (by simp) (fun _ => by omega)
    have h3 : FieldsAt w (Value.slice (some ⟨g, o + 2, none⟩) fs.length (c - 1)) fs := by simpa using this
    exact h3.fr (Fr.drewN (T := []) (Fr.refl _ w) n) (by simp)

theorem lineS_quoted {s : Script} {f : Field} {fs : List Field} (h : f.quoted = true) : lineS s f fs = .error 260 := by unfold lineS; rw [if_pos h]

set_option maxRecDepth 100000 in
set_option maxHeartbeats 1000000 in
theorem line_quoted (B0 r : Nat) (s : Script) (fv : Value) (f : Field) (fs : List Field) (w : World) (hf : FieldsAt w fv (f :: fs)) (hq : f.quoted = true) (hn : fs.length ≤ 1048576) (hB : B0 ≤ w.heap.size) :
    Calls Tryz.prog 26 #[.pointer (some ⟨r, 0, none⟩), fv] w (LinePost B0 w r (lineS s f fs)) := by
  rw [lineS_quoted hq]
  obtain ⟨g, o, c, rfl, hc, k1, k2⟩ := head_cells hf
  rw [hq] at k2
  clear hq
  have hf0 := hf
  clear hf
  rcases rest_cases hf0 with ⟨rfl, rfl⟩ | ⟨hc1, hfr⟩
  all_goals (
    go_enter Tryz.func26, Tryz.ntmps26
    go_wp2_with fail
    go_quiet (fail)
    go_wp2_with (go_at_call 35; (with_reducible refine (wrong_any _ _).mono ?_); rintro e w2 ⟨rfl, rfl⟩)
    go_ret
    exact line_err (below_drewN _ _ _) (fr_drewN _ _) hB rfl)

theorem line_err2 {B0 r b : Nat} {w w1 : World} {o : Except Int Script} {c : Int} (hb : Below B0 w w1) (hf : Fr TL w w1) (hbk : b = w1.heap.size) (hB : B0 ≤ b) (h : o = .error c) :
    LinePost B0 w r o (.returned (.iface 82 (.pointer (some ⟨b, 0, none⟩)))) (w1.alloc (.cells #[.int .i64 c, .int .i64 0] 40)) := by
  subst hbk
  exact line_err hb hf hB h
theorem setting_at (r : Nat) (word : B) (o : Option Nat) (h : setOff word = o) (w : World) :
    Calls Tryz.prog 37 #[.pointer (some ⟨r, 0, none⟩), .string ⟨word.toArray⟩] w fun e w' => e = .returned (.pointer (o.map fun o => ⟨r, o, none⟩)) ∧ w' = w := by
  have := setting_any r ⟨word.toArray⟩ w
  rwa [show (⟨word.toArray⟩ : ByteArray).data.toList = word from rfl, h] at this
theorem setOff_some {s : Script} {word : B} {o : Nat} (h : setOff word = some o) (n : Int) : ∃ s1, setNum s word n = some s1 := by
  unfold setOff at h
  unfold setNum
  repeat' split
  all_goals first | exact ⟨_, rfl⟩ | simp_all
theorem setOff_none {s : Script} {word : B} (h : setOff word = none) (n : Int) : setNum s word n = none := by
  unfold setOff at h
  unfold setNum
  repeat' split
  all_goals first | rfl | simp_all
theorem setOff_cell {s : Script} {word : B} {o : Nat} (h : setOff word = some o) (va vc : Value) : ∃ x : Int, (rcells s va vc)[o]? = some (.int .i64 x) := by
  unfold setOff at h
  repeat' split at h
  all_goals first | (injection h with h; subst h; exact ⟨_, rfl⟩) | cases h
theorem setOff_set {s s1 : Script} {word : B} {o : Nat} (h : setOff word = some o) (n : Int) (h1 : setNum s word n = some s1) (va vc : Value) : (rcells s va vc).set! o (.int .i64 n) = rcells s1 va vc ∧ s1.acts = s.acts ∧ s1.choices = s.choices := by
  unfold setOff at h
  unfold setNum at h1
  repeat' split at h
  all_goals first | (injection h with h; subst h; simp_all; subst h1; exact ⟨rfl, rfl, rfl⟩) | cases h
theorem ReaderIs.set {B0 B1 : Nat} {w : World} {r : Nat} {s s1 : Script} {va vc : Value} {vs : List Value} (h : ReaderIs B0 w r s va vc vs B1) (o : Nat) (u : Value) (e : (rcells s va vc).set! o u = rcells s1 va vc) (e1 : s1.acts = s.acts) (e2 : s1.choices = s.choices) :
    ReaderIs B0 (w.setCell ⟨r, o, none⟩ u) r s1 va vc vs B1 := by
  have f2 : Fr [75] w (w.setCell ⟨r, o, none⟩ u) := (Fr.refl _ _).setCell _ _ h.obj (by decide)
  refine ⟨h.ge, by rw [← e]; exact heap_set h.obj o u, by rw [e2]; exact own_fr h.cho f2 (by decide), by rw [e1]; exact own_fr h.cli f2 (by decide), by rw [e1]; exact h.all.fr f2 (by decide) (by decide), by rw [size_set]; exact h.le⟩
theorem ReaderIs.drewN {B0 B1 : Nat} {w : World} {r : Nat} {s : Script} {va vc : Value} {vs : List Value} (h : ReaderIs B0 w r s va vc vs B1) (n : Nat) : ReaderIs B0 (w.drewN n) r s va vc vs B1 := h.below (below_drewN _ _ _)

theorem lineS_set {s : Script} {f : Field} {fs : List Field} (hq : f.quoted = false) {o : Nat} (h : setOff f.text = some o) (hl : ¬ fs.length = 1) : lineS s f fs = .error 2 := by
  obtain ⟨s1, h1⟩ := setOff_some (s := s) h 0
  unfold lineS
  rw [if_neg (by simp [hq]), if_pos (by rw [h1]; rfl)]
  match fs, hl with
  | [], _ => rfl
  | [_], h => exact absurd rfl h
  | _ :: _ :: _, _ => rfl
theorem lineS_set0 {s : Script} {f x : Field} (hq : f.quoted = false) {o : Nat} (h : setOff f.text = some o) (hx : number x = none) : lineS s f [x] = .error 2 := by
  obtain ⟨s1, h1⟩ := setOff_some (s := s) h 0
  unfold lineS
  rw [if_neg (by simp [hq]), if_pos (by rw [h1]; rfl)]
  simp only [hx]
theorem lineS_set1 {s s1 : Script} {f x : Field} (hq : f.quoted = false) {o : Nat} (h : setOff f.text = some o) {n : Int} (hx : number x = some n) (h2 : setNum s f.text n = some s1) : lineS s f [x] = .ok s1 := by
  obtain ⟨s0, h1⟩ := setOff_some (s := s) h 0
  unfold lineS
  rw [if_neg (by simp [hq]), if_pos (by rw [h1]; rfl)]
  simp only [hx, h2, Option.getD_some]

set_option maxRecDepth 100000 in
set_option maxHeartbeats 1000000 in
theorem line_setfew (B0 r : Nat) (s : Script) (fv : Value) (f : Field) (fs : List Field) (w : World) (o7 : Nat) (hset : setOff f.text = some o7) (hl : ¬ fs.length = 1) (hf : FieldsAt w fv (f :: fs)) (hq : f.quoted = false) (hn : fs.length ≤ 1048576) (hB : B0 ≤ w.heap.size) :
    Calls Tryz.prog 26 #[.pointer (some ⟨r, 0, none⟩), fv] w (LinePost B0 w r (lineS s f fs)) := by
  rw [lineS_set hq hset hl]
  obtain ⟨g, o, c, rfl, hc, k1, k2⟩ := head_cells hf
  rw [hq] at k2
  clear hq
  have hf0 := hf
  clear hf
  have t0 : ((fs.length : Int) != 1) = true := by simp; omega
  have t1 : ((fs.length : Int) == 1) = false := by simp; omega
  have HS := Lib.hid hset
  clear hset
  rcases rest_cases hf0 with ⟨rfl, rfl⟩ | ⟨hc1, hfr⟩
  all_goals (
    go_enter Tryz.func26, Tryz.ntmps26
    go_wp2_with fail
    go_quiet (fail)
    go_wp2_with (first | (go_at_call 35; (with_reducible refine (wrong_any _ _).mono ?_); rintro e w2 ⟨rfl, rfl⟩) | (go_at_call 37; (with_reducible refine (setting_at r f.text _ HS.out _).mono ?_); rintro e w2 ⟨rfl, rfl⟩))
    go_ret
    exact line_err (below_drewN _ _ _) (fr_drewN _ _) hB rfl)

set_option maxRecDepth 100000 in
set_option maxHeartbeats 1000000 in
theorem line_set (B0 r : Nat) (s : Script) (fv : Value) (f x : Field) (w : World) (o7 : Nat) (hset : setOff f.text = some o7) (hf : FieldsAt w fv [f, x]) (hq : f.quoted = false) (hx : x.text.length ≤ 1048576) (hB : B0 ≤ w.heap.size) (hr : ReaderAt B0 w r s) :
    Calls Tryz.prog 26 #[.pointer (some ⟨r, 0, none⟩), fv] w (LinePost B0 w r (lineS s f [x])) := by
  obtain ⟨va, vc, vs, B1, hr⟩ := hr
  obtain ⟨old, hold⟩ := setOff_cell (s := s) hset va vc
  have q7 := hr.cell o7 hold
  have f7 := hr.free o7
  obtain ⟨g, o, c, rfl, hc, k1, k2⟩ := head_cells hf
  obtain ⟨g', o', c', e, -, hcel⟩ := hf.cells (by simp)
  injection e with e1 _ e3
  injection e1 with e1
  injection e1 with e1 e4
  subst e1 e3 e4
  obtain ⟨k3, k4⟩ := hcel 1 (by simp)
  simp only [List.getElem_cons_succ, List.getElem_cons_zero, Nat.reduceMul] at k3 k4
  clear hcel
  rw [hq] at k2
  have HQ := Lib.hid hq
  clear hq
  have hf0 := hf
  clear hf
  have hc1 : ¬ c = 1 := by simp at hc; omega
  cases hnx : number x with
  | none =>
    rw [lineS_set0 HQ.out hset hnx]
    have HS := Lib.hid hset
    clear hset
    have HN := Lib.hid hnx
    clear hnx
    go_enter Tryz.func26, Tryz.ntmps26
    go_wp2_with fail
    go_quiet (fail)
    go_wp2_with (first | (go_at_call 35; (with_reducible refine (wrong_any _ _).mono ?_); rintro e w2 ⟨rfl, rfl⟩) | (go_at_call 37; (with_reducible refine (setting_at r f.text _ HS.out _).mono ?_); rintro e w2 ⟨rfl, rfl⟩) | (go_at_call 38; (with_reducible refine (number_none x hx HN.out _).mono ?_); rintro e w' ⟨rfl, hb5⟩; have q8 := (hr.below ((below_drewN _ _ _).trans hb5)).cell o7 hold; have f8 := (hr.below ((below_drewN _ _ _).trans hb5)).free o7))
    go_ret
    exact line_err2 (((below_drewN _ _ _).trans (hb5.mono hB)).setCell (show B0 ≤ (⟨r, o7, none⟩ : Addr).block from hr.ge) _) (((fr_drewN _ _).below hb5).setCell ⟨r, o7, none⟩ _ (hr.below ((below_drewN _ _ _).trans hb5)).obj (by decide)) (size_set _ _ _).symm (Nat.le_trans hB hb5.size) rfl
  | some n =>
    obtain ⟨s1, hs1⟩ := setOff_some (s := s) hset n
    rw [lineS_set1 HQ.out hset hnx hs1]
    have HS := Lib.hid hset
    have H1 := Lib.hid hs1
    clear hset hs1
    have HN := Lib.hid hnx
    clear hnx
    go_enter Tryz.func26, Tryz.ntmps26
    go_wp2_with fail
    go_quiet (fail)
    go_wp2_with (first | (go_at_call 35; (with_reducible refine (wrong_any _ _).mono ?_); rintro e w2 ⟨rfl, rfl⟩) | (go_at_call 37; (with_reducible refine (setting_at r f.text _ HS.out _).mono ?_); rintro e w2 ⟨rfl, rfl⟩) | (go_at_call 38; (with_reducible refine (number_some x hx n HN.out _).mono ?_); rintro e w' ⟨rfl, hb5⟩; have q8 := (hr.below ((below_drewN _ _ _).trans hb5)).cell o7 hold; have f8 := (hr.below ((below_drewN _ _ _).trans hb5)).free o7))
    go_ret
    obtain ⟨e5, e6, e7⟩ := setOff_set HS.out n H1.out va vc
    refine ⟨((below_drewN _ _ _).trans (hb5.mono hB)).setCell hr.ge _, ((fr_drewN _ _).below hb5).setCell ⟨r, o7, none⟩ _ (hr.below ((below_drewN _ _ _).trans hb5)).obj (by decide), ?_⟩
    exact ⟨rfl, va, vc, vs, B1, (hr.below ((below_drewN _ _ _).trans hb5)).set o7 _ e5 e6 e7⟩

/-! ### flips, client -/
theorem lineS_flip {s : Script} {fs : List Field} : lineS s ⟨wFlips, false⟩ fs = if fs = [] then .ok { s with flips := true } else .error 2 := by
  unfold lineS
  rw [if_neg (by simp), if_neg (by rw [setOff_none (by decide) 0]; simp), if_pos rfl]
theorem lineS_cli {s : Script} {fs : List Field} : lineS s ⟨wClient, false⟩ fs = if fs = [] then .ok { s with acts := s.acts ++ [[]] } else .error 2 := by
  unfold lineS
  rw [if_neg (by simp), if_neg (by rw [setOff_none (by decide) 0]; simp), if_neg (by simp [wFlips, wClient]), if_pos rfl]

set_option maxRecDepth 100000 in
set_option maxHeartbeats 1000000 in
theorem line_wordrest (B0 r : Nat) (s : Script) (fv : Value) (wd : B) (f : Field) (fs : List Field) (w : World) (hwd : wd = wFlips ∨ wd = wClient) (hf : FieldsAt w fv (⟨wd, false⟩ :: f :: fs)) (hn : fs.length ≤ 1048576) (hB : B0 ≤ w.heap.size) :
    Calls Tryz.prog 26 #[.pointer (some ⟨r, 0, none⟩), fv] w (LinePost B0 w r (lineS s ⟨wd, false⟩ (f :: fs))) := by
  have e : lineS s ⟨wd, false⟩ (f :: fs) = .error 2 := by rcases hwd with rfl | rfl <;> simp [lineS_flip, lineS_cli]
  rw [e]
  clear e
  obtain ⟨g, o, c, rfl, hc, k1, k2⟩ := head_cells hf
  simp only [List.length_cons] at hc k1 k2
  have hc1 : ¬ c = 1 := by omega
  have t0 : ((fs.length : Int) + 1 != 0) = true := by simp; omega
  have t1 : ((fs.length : Int) + 1 == 0) = false := by simp; omega
  clear hf
  rcases hwd with rfl | rfl
  all_goals (
    simp only [wFlips, wClient] at k1
    go_enter Tryz.func26, Tryz.ntmps26
    go_wp2_with fail
    go_quiet (fail)
    go_wp2_with (first | (go_at_call 35; (with_reducible refine (wrong_any _ _).mono ?_); rintro e w2 ⟨rfl, rfl⟩) | (go_at_call 37; (with_reducible refine (setting_at r _ none (by decide) _).mono ?_); rintro e w2 ⟨rfl, rfl⟩))
    go_ret
    exact line_err (below_drewN _ _ _) (fr_drewN _ _) hB rfl)

set_option maxRecDepth 100000 in
set_option maxHeartbeats 1000000 in
theorem line_flips (B0 r : Nat) (s : Script) (fv : Value) (w : World) (hf : FieldsAt w fv [⟨wFlips, false⟩]) (hr : ReaderAt B0 w r s) :
    Calls Tryz.prog 26 #[.pointer (some ⟨r, 0, none⟩), fv] w (LinePost B0 w r (lineS s ⟨wFlips, false⟩ [])) := by
  rw [lineS_flip, if_pos rfl]
  obtain ⟨va, vc, vs, B1, hr⟩ := hr
  have q7 := hr.cell 7 (u := .bool s.flips) rfl
  have f7 := hr.free 7
  obtain ⟨g, o, c, rfl, hc, k1, k2⟩ := head_cells hf
  simp only [wFlips] at k1
  have hc0 : 1 ≤ c := by simpa using hc
  clear hf
  have HF := Lib.hid hr
  clear hr
  cases hfl : s.flips
  all_goals (
    rw [hfl] at q7
    have HL := Lib.hid hfl
    clear hfl
    by_cases hc1 : c = 1
    all_goals (
      try subst hc1
      go_enter Tryz.func26, Tryz.ntmps26
      go_wp2_with fail
      go_quiet (fail)
      go_wp2_with (first | (go_at_call 37; (with_reducible refine (setting_at r _ none (by decide) _).mono ?_); rintro e w2 ⟨rfl, rfl⟩))
      go_ret
      exact ⟨(below_drewN _ _ _).setCell HF.out.ge _, (fr_drewN _ _).setCell ⟨r, 7, none⟩ _ (HF.out.drewN _).obj (by decide), rfl, va, vc, vs, B1, (HF.out.drewN _).set 7 (.bool true) rfl rfl rfl⟩))

end Go.Proofs.YtmkmkccdlopogaaGreatDoor.Con
