/- The walk of (*reader).line: the acts; the whole. -/
import Derived.Test.YtmkmkccdlopogaaGreatDoorProg
import Derived.Test.YtmkmkccdlopogaaGreatDoorConT
import Derived.Test.YtmkmkccdlopogaaGreatDoorConR
set_option linter.unusedVariables false
set_option linter.unusedSimpArgs false
namespace Go.Proofs.YtmkmkccdlopogaaGreatDoor.Con
open Go.RowKit

set_option maxRecDepth 100000 in
set_option maxHeartbeats 2000000 in
theorem line_act (B0 r : Nat) (s : Script) (fv : Value) (f : Field) (fs : List Field) (w : World) (hf : FieldsAt w fv (f :: fs)) (hn : fs.length ≤ 1048576) (hB : B0 ≤ w.heap.size) (hr : ReaderAt B0 w r s)
    (ht : ∀ f ∈ fs, f.text.length ≤ 1048576) (h0 : 0 < B0) (hv : VB w) (hac : ∀ l ∈ s.acts, l.length ≤ 1048576)
    (hq : f.quoted = false) (hset : setOff f.text = none) (hw1 : f.text ≠ wFlips) (hw2 : f.text ≠ wClient) (hw3 : f.text ≠ wChoose) :
    Calls Tryz.prog 26 #[.pointer (some ⟨r, 0, none⟩), fv] w (LinePost B0 w r (actS s f.text fs)) := by
  obtain ⟨g, o, c, rfl, hc1, k1, k2⟩ := head_cells hf
  rw [hq] at k2
  have hcont : ∀ v n, FieldsAt (w.drewN n) v fs → Calls Tryz.prog 40 #[.pointer (some ⟨r, 0, none⟩), .string ⟨f.text.toArray⟩, v] (w.drewN n) fun e w' => LinePost B0 w r (actS s f.text fs) e w' :=
    fun v n h => (act_any B0 r s ⟨f.text.toArray⟩ v fs (w.drewN n) (hr.drewN n) h hn ht hB h0 hv hac).mono fun e w' h => h.from (below_drewN _ _ _) (fr_drewN _ _)
  have HS := Lib.hid hset
  clear hr ht hq hv hac hset
  have hf0 := hf
  clear hf
  generalize f.text = wd at *
  have HC := Lib.hid hcont
  have n1 : (wd == [102, 108, 105, 112, 115]) = false := beq_eq_false_iff_ne.2 hw1
  have n2 : (wd == [99, 108, 105, 101, 110, 116]) = false := beq_eq_false_iff_ne.2 hw2
  have n3 : (wd == [99, 104, 111, 111, 115, 101]) = false := beq_eq_false_iff_ne.2 hw3
  clear hcont hw1 hw2 hw3
  cases hch : actS s wd fs with
  | ok s1 =>
    have HO := Lib.hid hch
    clear hch
    rcases rest_cases hf0 with ⟨rfl, rfl⟩ | ⟨hc1, hfr⟩
    · go_enter Tryz.func26, Tryz.ntmps26
      go_wp2_with fail
      go_quiet (fail)
      go_wp2_with (first | (go_at_call 37; (with_reducible refine (setting_at r _ none HS.out _).mono ?_); rintro e w2 ⟨rfl, rfl⟩) | (go_at_call 40; (with_reducible refine (HC.out _ _ (rest_nil _ _ _)).mono ?_); intro e w2 hp; obtain ⟨hb, hfx, rfl, hrd⟩ := hp.okd HO.out))
      go_ret
      exact ⟨hb, hfx, rfl, hrd⟩
    · have HF := Lib.hid hfr
      clear hfr hf0
      go_enter Tryz.func26, Tryz.ntmps26
      go_wp2_with fail
      go_quiet (fail)
      go_wp2_with (first | (go_at_call 37; (with_reducible refine (setting_at r _ none HS.out _).mono ?_); rintro e w2 ⟨rfl, rfl⟩) | (go_at_call 40; (with_reducible refine (HC.out _ _ (HF.out _ _ rfl)).mono ?_); intro e w2 hp; obtain ⟨hb, hfx, rfl, hrd⟩ := hp.okd HO.out))
      go_ret
      exact ⟨hb, hfx, rfl, hrd⟩
  | error ec =>
    have HO := Lib.hid hch
    clear hch
    rcases rest_cases hf0 with ⟨rfl, rfl⟩ | ⟨hc1, hfr⟩
    · go_enter Tryz.func26, Tryz.ntmps26
      go_wp2_with fail
      go_quiet (fail)
      go_wp2_with (first | (go_at_call 37; (with_reducible refine (setting_at r _ none HS.out _).mono ?_); rintro e w2 ⟨rfl, rfl⟩) | (go_at_call 40; (with_reducible refine (HC.out _ _ (rest_nil _ _ _)).mono ?_); intro e w2 hp; obtain ⟨hb, hfx, bb, rfl, hbb, hob⟩ := hp.bad HO.out))
      go_ret
      exact ⟨hb, hfx, bb, rfl, hbb, hob⟩
    · have HF := Lib.hid hfr
      clear hfr hf0
      go_enter Tryz.func26, Tryz.ntmps26
      go_wp2_with fail
      go_quiet (fail)
      go_wp2_with (first | (go_at_call 37; (with_reducible refine (setting_at r _ none HS.out _).mono ?_); rintro e w2 ⟨rfl, rfl⟩) | (go_at_call 40; (with_reducible refine (HC.out _ _ (HF.out _ _ rfl)).mono ?_); intro e w2 hp; obtain ⟨hb, hfx, bb, rfl, hbb, hob⟩ := hp.bad HO.out))
      go_ret
      exact ⟨hb, hfx, bb, rfl, hbb, hob⟩

theorem lineS_act {s : Script} {f : Field} {fs : List Field} (hq : f.quoted = false) (hset : setOff f.text = none) (hw1 : f.text ≠ wFlips) (hw2 : f.text ≠ wClient) (hw3 : f.text ≠ wChoose) : lineS s f fs = actS s f.text fs := by
  unfold lineS
  rw [if_neg (by simp [hq]), if_neg (by rw [setOff_none hset 0]; simp), if_neg hw1, if_neg hw2, if_neg hw3]
  rfl

theorem line_any (B0 r : Nat) (s : Script) (fv : Value) (f : Field) (fs : List Field) (w : World) (hf : FieldsAt w fv (f :: fs)) (hn : fs.length ≤ 1048576) (hB : B0 ≤ w.heap.size) (hr : ReaderAt B0 w r s)
    (ht : ∀ f ∈ fs, f.text.length ≤ 1048576) (h0 : 0 < B0) (hv : VB w) (hac : ∀ l ∈ s.acts, l.length ≤ 1048576) (hal : s.acts.length ≤ 1048577) (hc : s.choices.length ≤ 1099512676352) :
    Calls Tryz.prog 26 #[.pointer (some ⟨r, 0, none⟩), fv] w (LinePost B0 w r (lineS s f fs)) := by
  cases hq : f.quoted with
  | true => exact line_quoted B0 r s fv f fs w hf hq hn hB
  | false =>
    cases hset : setOff f.text with
    | some o =>
      by_cases h1 : fs.length = 1
      · match fs, h1 with
        | [x], _ => exact line_set B0 r s fv f x w o hset hf hq (ht x (by simp)) hB hr
      · exact line_setfew B0 r s fv f fs w o hset h1 hf hq hn hB
    | none =>
      obtain ⟨t, q⟩ := f
      simp only at hq hset
      subst hq
      by_cases hw1 : t = wFlips
      · subst hw1
        cases fs with
        | nil => exact line_flips B0 r s fv w hf hr
        | cons x fs => exact line_wordrest B0 r s fv _ x fs w (.inl rfl) hf (by simp at hn; omega) hB
      · by_cases hw2 : t = wClient
        · subst hw2
          cases fs with
          | nil => exact line_client B0 r s fv w hf hr hB hal
          | cons x fs => exact line_wordrest B0 r s fv _ x fs w (.inr rfl) hf (by simp at hn; omega) hB
        · by_cases hw3 : t = wChoose
          · subst hw3
            exact line_choose B0 r s fv fs w hf hn hB hr (by omega) ht
          · rw [lineS_act rfl hset hw1 hw2 hw3]
            exact line_act B0 r s fv _ fs w hf hn hB hr ht h0 hv hac rfl hset hw1 hw2 hw3
end Go.Proofs.YtmkmkccdlopogaaGreatDoor.Con
