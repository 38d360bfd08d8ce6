/- The walk of console.cut. -/
import Derived.Test.YtmkmkccdlopogaaGreatDoorProg
import Derived.Test.YtmkmkccdlopogaaGreatDoorConK
set_option linter.unusedVariables false
set_option linter.unusedSimpArgs false
namespace Go.Proofs.YtmkmkccdlopogaaGreatDoor.Con
open Go.RowKit

set_option maxRecDepth 100000 in
set_option maxHeartbeats 4000000 in
theorem cut_any (s : ByteArray) (w : World) (hs : s.size ≤ 1048576) :
    Calls Tryz.prog 25 #[.string s] w (CutPost w.heap.size w (cut s.data.toList)) := by
  go_enter Tryz.func25, Tryz.ntmps25
  go_wp2_with fail
  refine wp_scope_jumps2 0 (CutAt w.heap.size w s) (fun a _ => s.size - (intOf (a.tmps.getD 5 undef)).toNat) rfl ?pass ?first
  case first =>
    intro hP
    go_wp2_with fail
    go_step3
    rename_i hK
    refine hK _ _ (hP _ _ ⟨0, .slice none 0 0, [], s.size, rfl, rfl, rfl, rfl, rfl, Nat.zero_le _, ⟨by simp [fcells], .inl ⟨rfl, rfl⟩⟩, Nat.le_refl _, Nat.le_refl _, Below.refl _ _, Nat.sub_le _ _, ?_⟩)
    simp [cut]
  case pass =>
    rintro a W ⟨k, v, fs, n, hz, h0, h4, h5, hd, hk, hown, hfl, hBW, hb, hn, hsem⟩
    obtain ⟨U, rfl⟩ := frame_at hz h0 h4 h5 hd
    clear hz h0 h4 h5 hd
    have Hsem := Lib.hid hsem
    clear hsem
    go_wp2_with fail
    go_loopw [5] (fun i wr => wr = W ∧ ∃ m : Nat, i = .int .i64 m ∧ k ≤ m ∧ m ≤ s.size ∧ m + blanks (s.data.toList.drop m) = k + blanks (s.data.toList.drop k)) (fun i _ => s.size - (intOf i).toNat)
    case atStart => exact ⟨rfl, k, rfl, Nat.le_refl _, hk, rfl⟩
    case round =>
      obtain ⟨rfl, m, rfl, hkm, hm, hbl⟩ := hrel
      by_cases hlt : m < s.size
      · have hd := drop_cons s m hlt
        by_cases h32 : s[m].toNat = 32
        · have t32 : ((s[m].toNat : Int) == 32) = true := by simp [h32]
          have e32 : s[m] = 32 := by apply UInt8.toNat_inj.1; rw [h32]; rfl
          go_wp2_with fail
          go_roundw
          case rel => exact ⟨trivial, m + 1, by go_num, by omega, hlt, by rw [← hbl, hd, e32, blanks_one]; omega⟩
          case measure => simp [intOf]; omega
        · have t32 : ((s[m].toNat : Int) == 32) = false := by rw [beq_eq_false_iff_ne]; omega
          have e32 : ¬ s[m] = 32 := by intro e; rw [e] at h32; exact h32 rfl
          have hb0 : k + blanks (s.data.toList.drop k) = m := by rw [← hbl, hd, blanks_not _ e32]; rfl
          clear hbl
          have Hr := Lib.hid (show cutF (n + 1) (s.data.toList.drop k) = cutR n (s[m] :: s.data.toList.drop (m + 1)) from by rw [cutF_R, List.drop_drop, hb0, hd])
          clear hb0
          have tm : ((m : Int) == (s.size : Int)) = false := by rw [beq_eq_false_iff_ne]; omega
          by_cases h34 : s[m].toNat = 34
          · have t34 : ((s[m].toNat : Int) == 34) = true := by simp [h34]
            have e34 : s[m] = 34 := by apply UInt8.toNat_inj.1; rw [h34]; rfl
            have hr := Hr.out
            rw [e34] at hr
            have HR := Lib.hid hr
            clear hr Hr hd e34
            rcases hu : unq (s.data.toList.drop (m + 1)) 0 [] with _ | ⟨x, j⟩
            · have HU := Lib.hid hu
              clear hu
              go_wp2_with (first | (go_at_call 34; (with_reducible refine (unquote_none s (m + 1) hs _ HU.out).mono ?_); rintro e w1 ⟨rfl, hb1⟩; have hown1 := own_below hown hb1; have hbw := hb.trans (hb1.mono hBW)) | (go_at_call 35; (with_reducible refine (wrong_any _ _).mono ?_); rintro e w2 ⟨rfl, rfl⟩))
              go_ret2
              exact cut_wrong hbw (Nat.le_trans hBW hb1.size) (by rw [← Hsem.out, HR.out, cutR_bad _ _ HU.out]; rfl)
            · have hj := unq_len _ _ _ x j hu
              simp only [List.length_drop, Array.length_toList] at hj
              have hj2 : j ≤ s.size - (m + 1) := by have := hj.2; simpa using this
              have HU := Lib.hid hu
              clear hu
              have hq := cutR_q n _ x j HU.out
              rw [List.drop_drop, Nat.add_assoc] at hq
              have HQ := Lib.hid hq
              clear hq
              by_cases he : m + (1 + j) = s.size
              · have hnil : s.data.toList.drop (m + (1 + j)) = [] := List.drop_eq_nil_of_le (by rw [he]; simp)
                have tl : ((m : Int) + (1 + (j : Int)) < (s.size : Int)) = False := by simp; omega
                have HN := Lib.hid hnil
                clear hnil
                go_wp2_with (first | (go_at_call 34; (with_reducible refine (unquote_some s (m + 1) hs _ _ _ HU.out).mono ?_); rintro e w1 ⟨rfl, hb1⟩; have hown1 := own_below hown hb1; have hbw := hb.trans (hb1.mono hBW)) | (at_builtin; refine wp_app1 rfl _ _ 78 rfl w.heap.size (.agg #[.string ⟨#[]⟩, .bool false]) 2 24 Tryz.underlying78 info95 rfl (by decide) _ _ _ rfl hown1 rfl rfl ?c2 ?c3 (by decide) ?c4 ?_))
                case c2 => simp [Value.oneCell']
                case c3 => omega
                case c4 => exact Nat.le_trans hBW hb1.size
                intro v' w2 hown2 hb2 _
                go_wp2_with fail
                go_step3
                change 0 = 0 ∧ CutAt w.heap.size w s _ _ ∧ (_ : Nat) < _
                obtain ⟨n', rfl⟩ : ∃ n', n = n' + 1 := ⟨n - 1, by omega⟩
                refine ⟨rfl, ⟨m + (1 + j), v', fs ++ [⟨x, true⟩], n', rfl, rfl, rfl, int_at rfl (by omega), rfl, by omega, own_to hown2 (by simp) (by rw [fc_app]), by simp; omega, Nat.le_trans (Nat.le_trans hBW hb1.size) hb2.size, hbw.trans hb2, by omega, cut_more ?_⟩, by refine meas_at rfl rfl ?_ ?_ <;> omega⟩
                rw [← Hsem.out, HR.out, HQ.out, HN.out]; rfl

              · have hdj := drop_cons s (m + (1 + j)) (by omega)
                by_cases h2 : (s[m + (1 + j)]'(by omega)).toNat = 32
                · have t2 : (((s[m + (1 + j)]'(by omega)).toNat : Int) != 32) = false := by simp; omega
                  have e2 : (s[m + (1 + j)]'(by omega)) = 32 := by apply UInt8.toNat_inj.1; rw [h2]; rfl
                  have HD := Lib.hid hdj
                  have E2 := Lib.hid e2
                  clear hdj e2
                  go_wp2_with (first | (go_at_call 34; (with_reducible refine (unquote_some s (m + 1) hs _ _ _ HU.out).mono ?_); rintro e w1 ⟨rfl, hb1⟩; have hown1 := own_below hown hb1; have hbw := hb.trans (hb1.mono hBW)) | (at_builtin; refine wp_app1 rfl _ _ 78 rfl w.heap.size (.agg #[.string ⟨#[]⟩, .bool false]) 2 24 Tryz.underlying78 info95 rfl (by decide) _ _ _ rfl hown1 rfl rfl ?c2 ?c3 (by decide) ?c4 ?_))
                  case c2 => simp [Value.oneCell']
                  case c3 => omega
                  case c4 => exact Nat.le_trans hBW hb1.size
                  intro v' w2 hown2 hb2 _
                  go_wp2_with fail
                  go_step3
                  change 0 = 0 ∧ CutAt w.heap.size w s _ _ ∧ (_ : Nat) < _
                  obtain ⟨n', rfl⟩ : ∃ n', n = n' + 1 := ⟨n - 1, by omega⟩
                  refine ⟨rfl, ⟨m + (1 + j), v', fs ++ [⟨x, true⟩], n', rfl, rfl, rfl, int_at rfl (by omega), rfl, by omega, own_to hown2 (by simp) (by rw [fc_app]), by simp; omega, Nat.le_trans (Nat.le_trans hBW hb1.size) hb2.size, hbw.trans hb2, by omega, cut_more ?_⟩, by refine meas_at rfl rfl ?_ ?_ <;> omega⟩
                  rw [← Hsem.out, HR.out, HQ.out, HD.out, E2.out]; rfl

                · have t2 : (((s[m + (1 + j)]'(by omega)).toNat : Int) != 32) = true := by simp; omega
                  have e2 : ¬ (s[m + (1 + j)]'(by omega)) = 32 := by intro e; rw [e] at h2; exact h2 rfl
                  have HD := Lib.hid hdj
                  have E2 := Lib.hid e2
                  clear hdj e2
                  go_wp2_with (first | (go_at_call 34; (with_reducible refine (unquote_some s (m + 1) hs _ _ _ HU.out).mono ?_); rintro e w1 ⟨rfl, hb1⟩; have hown1 := own_below hown hb1; have hbw := hb.trans (hb1.mono hBW)) | (go_at_call 35; (with_reducible refine (wrong_any _ _).mono ?_); rintro e w2 ⟨rfl, rfl⟩))
                  go_ret2
                  exact cut_wrong hbw (Nat.le_trans hBW hb1.size) (by rw [← Hsem.out, HR.out, HQ.out, HD.out]; simp [E2.out])
          · have t34 : ((s[m].toNat : Int) == 34) = false := by rw [beq_eq_false_iff_ne]; omega
            have e34 : ¬ s[m] = 34 := by intro e; rw [e] at h34; exact h34 rfl
            have hp1 := plain_le (s.data.toList.drop m)
            have hp0 : 0 < plainLen (s.data.toList.drop m) := by rw [hd, plain_one _ e32 e34]; omega
            have hst := plain_stop (s.data.toList.drop m)
            have hi := plain_idx (s.data.toList.drop m)
            have hr := Hr.out
            rw [← hd, cutR_plain n _ _ _ hd e34, List.drop_drop] at hr
            have HR := Lib.hid hr
            clear hr Hr hd
            generalize hpp : plainLen (s.data.toList.drop m) = p at *
            have hlen : (s.data.toList.drop m).length = s.size - m := by simp
            rw [hlen] at hp1 hi
            by_cases hp : p = s.size - m
            · rw [if_pos hp] at hi
              have HI := Lib.hid hi
              have HP := Lib.hid hpp
              clear hi hst hpp hlen
              go_wp2_with (first | (go_at_call 36; (with_reducible refine (indexAny_at s m hs _ _ HI.out).mono ?_); rintro e w1 ⟨rfl, hb1⟩; have hown1 := own_below hown hb1; have hbw := hb.trans (hb1.mono hBW)) | (at_builtin; refine wp_app1 rfl _ _ 78 rfl w.heap.size (.agg #[.string ⟨#[]⟩, .bool false]) 2 24 Tryz.underlying78 info95 rfl (by decide) _ _ _ rfl hown1 rfl rfl ?c2 ?c3 (by decide) ?c4 ?_))
              case c2 => simp [Value.oneCell']
              case c3 => omega
              case c4 => exact Nat.le_trans hBW hb1.size
              intro v' w2 hown2 hb2 _
              go_wp2_with fail
              go_step3
              change 0 = 0 ∧ CutAt w.heap.size w s _ _ ∧ (_ : Nat) < _
              obtain ⟨n', rfl⟩ : ∃ n', n = n' + 1 := ⟨n - 1, by omega⟩
              refine ⟨rfl, ⟨s.size, v', fs ++ [⟨(s.data.toList.drop m).take p, false⟩], n', rfl, rfl, rfl, int_at rfl (by omega), rfl, by omega, own_to hown2 (by simp) (by rw [fc_app]; rw [ext_take s m p s.size (by omega)]), by simp; omega, Nat.le_trans (Nat.le_trans hBW hb1.size) hb2.size, hbw.trans hb2, by omega, cut_more ?_⟩, by refine meas_at rfl rfl ?_ ?_ <;> omega⟩
              rw [← Hsem.out, HR.out, show m + p = s.size by omega, show s.data.toList.drop s.size = [] from List.drop_eq_nil_of_le (by simp)]; rfl

            · rw [if_neg hp] at hi
              have hmp : m + p < s.size := by omega
              have hst2 : s[m + p] = 32 ∨ s[m + p] = 34 := by
                have := hst (by rw [hlen]; omega)
                rw [List.getElem_drop] at this
                exact this
              have hdp := drop_cons s (m + p) hmp
              have HI := Lib.hid hi
              have HP := Lib.hid hpp
              have HD := Lib.hid hdp
              clear hi hst hpp hlen hdp
              by_cases h2 : s[m + p].toNat = 34
              · have t2 : ((s[m + p].toNat : Int) == 34) = true := by simp [h2]
                have e2 : s[m + p] = 34 := by apply UInt8.toNat_inj.1; rw [h2]; rfl
                have E2 := Lib.hid e2
                clear e2 hst2
                go_wp2_with (first | (go_at_call 36; (with_reducible refine (indexAny_at s m hs _ _ HI.out).mono ?_); rintro e w1 ⟨rfl, hb1⟩; have hown1 := own_below hown hb1; have hbw := hb.trans (hb1.mono hBW)) | (go_at_call 35; (with_reducible refine (wrong_any _ _).mono ?_); rintro e w2 ⟨rfl, rfl⟩))
                go_ret2
                exact cut_wrong hbw (Nat.le_trans hBW hb1.size) (by rw [← Hsem.out, HR.out, HD.out]; simp [E2.out])
              · have t2 : ((s[m + p].toNat : Int) == 34) = false := by rw [beq_eq_false_iff_ne]; omega
                have e2 : s[m + p] = 32 := by rcases hst2 with h | h; exact h; exact absurd (by rw [h]; rfl) h2
                have E2 := Lib.hid e2
                clear e2 hst2
                go_wp2_with (first | (go_at_call 36; (with_reducible refine (indexAny_at s m hs _ _ HI.out).mono ?_); rintro e w1 ⟨rfl, hb1⟩; have hown1 := own_below hown hb1; have hbw := hb.trans (hb1.mono hBW)) | (at_builtin; refine wp_app1 rfl _ _ 78 rfl w.heap.size (.agg #[.string ⟨#[]⟩, .bool false]) 2 24 Tryz.underlying78 info95 rfl (by decide) _ _ _ rfl hown1 rfl rfl ?c2 ?c3 (by decide) ?c4 ?_))
                case c2 => simp [Value.oneCell']
                case c3 => omega
                case c4 => exact Nat.le_trans hBW hb1.size
                intro v' w2 hown2 hb2 _
                go_wp2_with fail
                go_step3
                change 0 = 0 ∧ CutAt w.heap.size w s _ _ ∧ (_ : Nat) < _
                obtain ⟨n', rfl⟩ : ∃ n', n = n' + 1 := ⟨n - 1, by omega⟩
                refine ⟨rfl, ⟨m + p, v', fs ++ [⟨(s.data.toList.drop m).take p, false⟩], n', rfl, rfl, rfl, int_at rfl (by omega), rfl, by omega, own_to hown2 (by simp) (by rw [fc_app]; rw [ext_take s m p (m + p) rfl]), by simp; omega, Nat.le_trans (Nat.le_trans hBW hb1.size) hb2.size, hbw.trans hb2, by omega, cut_more ?_⟩, by refine meas_at rfl rfl ?_ ?_ <;> omega⟩
                rw [← Hsem.out, HR.out, HD.out, E2.out]; rfl

      · have hme : m = s.size := by omega
        subst hme
        have hb0 : k + blanks (s.data.toList.drop k) = s.size := by rw [← hbl, List.drop_eq_nil_of_le (by simp)]; rfl
        clear hbl
        go_wp2_with fail
        go_ret2
        refine ⟨hb, ?_⟩
        rw [← Hsem.out, cutF_R, List.drop_drop, hb0, List.drop_eq_nil_of_le (by simp)]
        exact ⟨_, rfl, by simpa using hown⟩
end Go.Proofs.YtmkmkccdlopogaaGreatDoor.Con
