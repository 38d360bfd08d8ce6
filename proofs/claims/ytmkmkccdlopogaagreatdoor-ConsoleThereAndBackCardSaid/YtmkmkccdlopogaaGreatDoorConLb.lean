/- The walk of ConsoleThereAndBack. -/
import Derived.Test.YtmkmkccdlopogaaGreatDoorProg
import Derived.Test.YtmkmkccdlopogaaGreatDoorConLa
set_option linter.unusedVariables false
set_option linter.unusedSimpArgs false
namespace Go.Proofs.YtmkmkccdlopogaaGreatDoor.Con
open Go.RowKit

theorem parseLines_code : ∀ (ls : List B) (i : Nat) (s s1 : Script) (c : Int) (l : Nat), parseLines ls i s = (s1, c, l) → (c = 0 ∧ l = 0) ∨ (c ≠ 0 ∧ s1 = Script.zero)
  | [], i, s, s1, c, l, h => by simp only [parseLines, Prod.mk.injEq] at h; exact .inl ⟨h.2.1.symm, h.2.2.symm⟩
  | x :: ls, i, s, s1, c, l, h => by
    simp only [parseLines] at h
    split at h
    · exact parseLines_code ls _ s s1 c l h
    · split at h
      · simp only [Prod.mk.injEq] at h; exact .inr ⟨by rw [← h.2.1]; decide, h.1.symm⟩
      · exact parseLines_code ls _ s s1 c l h
      · split at h
        · rename_i e he
          simp only [Prod.mk.injEq] at h
          exact .inr ⟨by rw [← h.2.1]; exact lineS_code he, h.1.symm⟩
        · exact parseLines_code ls _ _ s1 c l h
theorem parse_code {t : B} {s : Script} {c : Int} {l : Nat} (h : parse t = (s, c, l)) : (c = 0 ∧ l = 0) ∨ (c ≠ 0 ∧ s = Script.zero) := by
  unfold parse at h
  split at h
  · simp only [Prod.mk.injEq] at h; exact .inr ⟨by rw [← h.2.1]; decide, h.1.symm⟩
  · exact parseLines_code _ _ _ _ _ _ h

set_option maxRecDepth 100000 in
set_option maxHeartbeats 4000000 in
theorem there_bad (t : ByteArray) (w : World) (h : LawOK w) (c : Int) (l : Nat) (hp : parse t.data.toList = (Script.zero, c, l)) (hc : c ≠ 0) : Calls Tryz.prog 4 #[.string t] w fun e w' => e = .returned (.bool true) ∧ Below w.heap.size w w' := by
  have HO := Lib.hid h
  have HP := Lib.hid hp
  clear h hp
  have t0 : (c == 0) = false := by rw [beq_eq_false_iff_ne]; exact hc
  have t1 : (c != 0) = true := by simpa using hc
  clear hc
  go_enter Tryz.func4, Tryz.ntmps4
  go_wp2_with fail
  refine (speaks_any _ HO.out).mono ?_
  rintro e w1 ⟨rfl, hb1⟩
  have HB1 := Lib.hid hb1
  clear hb1
  go_wp2_with fail
  refine (parse_is _ _ (HO.out.below HB1.out) Script.zero c l HP.out).mono ?_
  rintro e w2 ⟨a4, c4, a5, c5, vs, B0, B1, rfl, hb2, -⟩
  have e1 : Script.zero.acts.length = 0 := rfl
  have e2 : Script.zero.choices.length = 0 := rfl
  rw [e1, e2]
  clear e1 e2
  simp only [Script.zero]
  have HB2 := Lib.hid (HB1.out.trans (hb2.mono HB1.out.size))
  clear hb2
  go_wp2_with fail
  all_goals go_ret
  all_goals exact ⟨rfl, HB2.out.trans ((below_two w2 _ _).mono HB2.out.size)⟩

set_option maxRecDepth 100000 in
set_option maxHeartbeats 4000000 in
theorem there_good (t : ByteArray) (w : World) (h : LawOK w) (s : Script) (hp : parse t.data.toList = (s, 0, 0)) : Calls Tryz.prog 4 #[.string t] w fun e w' => e = .returned (.bool true) ∧ Below w.heap.size w w' := by
  have HO := Lib.hid h
  have HP := Lib.hid hp
  have HK := Lib.hid (parse_SOK hp)
  clear h hp
  go_enter Tryz.func4, Tryz.ntmps4
  go_wp2_with fail
  refine (speaks_any _ HO.out).mono ?_
  rintro e w1 ⟨rfl, hb1⟩
  have HB1 := Lib.hid hb1
  clear hb1
  go_wp2_with fail
  refine (parse_is _ _ (HO.out.below HB1.out) s 0 0 HP.out).mono ?_
  rintro e w2 ⟨a4, c4, a5, c5, vs, B0, B1, rfl, hb2, hs2⟩
  have hB2 := HB1.out.trans (hb2.mono HB1.out.size)
  obtain ⟨o1, o2⟩ := two_old w2 #[.int .i64 s.nodes, .int .i64 s.replicas, .int .i64 s.block, .int .i64 s.room, .slice a4 s.acts.length c4, .slice a5 s.choices.length c5, .int .i64 s.rounds, .bool s.flips] #[.int .i64 0, .int .i64 0] 28 40
  have hbt := below_two w2 (.cells #[.int .i64 s.nodes, .int .i64 s.replicas, .int .i64 s.block, .int .i64 s.room, .slice a4 s.acts.length c4, .slice a5 s.choices.length c5, .int .i64 s.rounds, .bool s.flips] 28) (.cells #[.int .i64 0, .int .i64 0] 40)
  have HX := Lib.hid (And.intro o1 (And.intro o2 (And.intro hbt (And.intro (hs2.below hbt) hB2))))
  have HL := Lib.hid (show (((0 : Nat) : Int)) = 0 from rfl)
  clear o1 o2 hbt hs2 hB2 hb2
  rw [show (((0 : Nat) : Int)) = 0 from rfl]
  go_wp2_with fail
  refine (show_any s (.slice a4 s.acts.length c4) (.slice a5 s.choices.length c5) vs B0 B1 _ HX.out.2.2.2.1 HK.out (HO.out.below (HX.out.2.2.2.2.trans (HX.out.2.2.1.mono HX.out.2.2.2.2.size))).vb (HO.out.below (HX.out.2.2.2.2.trans (HX.out.2.2.1.mono HX.out.2.2.2.2.size))).tb (by simp)).mono ?_
  rintro e w3 ⟨rfl, hb3⟩
  have HB3 := Lib.hid (HX.out.2.2.2.2.trans ((HX.out.2.2.1.trans (hb3.mono HX.out.2.2.1.size)).mono HX.out.2.2.2.2.size))
  have HC := Lib.hid (And.intro (cell_kept (HX.out.1 4 _ rfl) hb3) (cell_kept (HX.out.1 5 _ rfl) hb3))
  clear HX hb3 HL
  obtain ⟨T, hT⟩ : ∃ T, showS s = T := ⟨_, rfl⟩
  have hTs : (⟨T.toArray⟩ : ByteArray).size = T.length := by simp [ByteArray.size]
  rw [hT]
  have HT := Lib.hid (And.intro hT hTs)
  clear hT
  by_cases hTl : 1048576 < T.length
  · have hTi : (1048576 : Int) < (T.length : Int) := by omega
    go_wp2_with fail
    go_ret
    exact ⟨rfl, HB3.out⟩
  · have hTi : ¬ (1048576 : Int) < (T.length : Int) := by omega
    have HTL := Lib.hid hTl
    have hpb : parse (⟨T.toArray⟩ : ByteArray).data.toList = (s, 0, 0) := by
      have := there_and_back HP.out (by have := HT.out.1; rw [this]; omega)
      rw [HT.out.1] at this
      exact this
    have HPB := Lib.hid hpb
    clear hTl hpb
    go_wp2_with fail
    refine (parse_is _ _ (HO.out.below HB3.out) s 0 0 HPB.out).mono ?_
    rintro e w4 ⟨a4', c4', a5', c5', vs', B0', B1', rfl, hb4, hs4⟩
    have hB4 := HB3.out.trans (hb4.mono HB3.out.size)
    obtain ⟨o1, o2⟩ := two_old w4 #[.int .i64 s.nodes, .int .i64 s.replicas, .int .i64 s.block, .int .i64 s.room, .slice a4' s.acts.length c4', .slice a5' s.choices.length c5', .int .i64 s.rounds, .bool s.flips] #[.int .i64 0, .int .i64 0] 28 40
    have hbt := below_two w4 (.cells #[.int .i64 s.nodes, .int .i64 s.replicas, .int .i64 s.block, .int .i64 s.room, .slice a4' s.acts.length c4', .slice a5' s.choices.length c5', .int .i64 s.rounds, .bool s.flips] 28) (.cells #[.int .i64 0, .int .i64 0] 40)
    have HX := Lib.hid (And.intro o1 (And.intro o2 (And.intro hbt (And.intro (hs4.below hbt) hB4))))
    have HC4 := Lib.hid (And.intro (cell_kept HC.out.1 (hb4.trans (hbt.mono hb4.size))) (cell_kept HC.out.2 (hb4.trans (hbt.mono hb4.size))))
    clear o1 o2 hbt hs4 hB4 hb4
    rw [show (((0 : Nat) : Int)) = 0 from rfl]
    go_wp2_with fail
    refine (show_any s (.slice a4' s.acts.length c4') (.slice a5' s.choices.length c5') vs' B0' B1' _ HX.out.2.2.2.1 HK.out (HO.out.below (HX.out.2.2.2.2.trans (HX.out.2.2.1.mono HX.out.2.2.2.2.size))).vb (HO.out.below (HX.out.2.2.2.2.trans (HX.out.2.2.1.mono HX.out.2.2.2.2.size))).tb (by simp)).mono ?_
    rintro e w5 ⟨rfl, hb5⟩
    have k4 := cell_kept (HX.out.1 4 _ rfl) hb5
    have k5 := cell_kept (HX.out.1 5 _ rfl) hb5
    have m4 := cell_kept HC4.out.1 hb5
    have m5 := cell_kept HC4.out.2 hb5
    have HB5 := Lib.hid (HX.out.2.2.2.2.trans ((HX.out.2.2.1.trans (hb5.mono HX.out.2.2.1.size)).mono HX.out.2.2.2.2.size))
    clear HX hb5
    rw [HT.out.1]
    go_wp2_with fail
    go_ret
    exact ⟨rfl, HB5.out⟩

theorem there_any (t : ByteArray) (w : World) (h : LawOK w) : Calls Tryz.prog 4 #[.string t] w fun e w' => e = .returned (.bool true) ∧ Below w.heap.size w w' := by
  rcases hp : parse t.data.toList with ⟨s, c, l⟩
  rcases parse_code hp with ⟨rfl, rfl⟩ | ⟨hc, rfl⟩
  · exact there_good t w h s hp
  · exact there_bad t w h c l hp hc
end Go.Proofs.YtmkmkccdlopogaaGreatDoor.Con
