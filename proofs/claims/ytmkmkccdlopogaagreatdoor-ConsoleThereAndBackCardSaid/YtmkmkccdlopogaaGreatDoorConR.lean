/- The walk of (*reader).act. -/
import Derived.Test.YtmkmkccdlopogaaGreatDoorProg
import Derived.Test.YtmkmkccdlopogaaGreatDoorConQ
import Derived.Deep.RegionHeld3
import Derived.Deep.DeepCutAuto
import Derived.Test.YtmkmkccdlopogaaGreatDoorWLast
set_option linter.unusedVariables false
set_option linter.unusedSimpArgs false
namespace Go.Proofs.YtmkmkccdlopogaaGreatDoor.Con
open Go.RowKit
open Go.Proofs.YtmkmkccdlopogaaGreatDoorW.PrintLast (start_ take_ pure_ one_ last_ done_ norm_)

theorem own_le {w : World} {b e size n : Nat} {v : Value} {xs : List Value} (h : w.ownsRow b e size v n xs) : n ≤ 9223372036854775807 := by
  rcases h.2 with ⟨_, h2⟩ | ⟨g, cap, cur, hv, hg, ho, hn, hm, _⟩
  · omega
  · unfold maxLen at hm; omega

set_option maxRecDepth 100000 in
set_option maxHeartbeats 4000000 in
theorem act_any (B0 r : Nat) (s : Script) (word : ByteArray) (fv : Value) (fs : List Field) (w : World) (hr : ReaderAt B0 w r s) (hf : FieldsAt w fv fs) (hn : fs.length ≤ 1048576)
    (ht : ∀ f ∈ fs, f.text.length ≤ 1048576) (hB : B0 ≤ w.heap.size) (h0 : 0 < B0) (hv : VB w) (hac : ∀ l ∈ s.acts, l.length ≤ 1048576) :
    Calls Tryz.prog 40 #[.pointer (some ⟨r, 0, none⟩), .string word, fv] w (LinePost B0 w r (actS s word.data.toList fs)) := by
  have hf0 := hf
  obtain ⟨va, vc, vs, B1, hr⟩ := hr
  obtain ⟨a, c, rfl, hcap, -⟩ := hf
  obtain ⟨tv, fz, hg0⟩ := hv
  go_enter Tryz.func40, Tryz.ntmps40
  go_wp2_with (refine wpList_load_row rfl 87 _ rfl 0 rfl tv vcA fz _ hg0 Tryz.underlying87 rfl (by kernel_rfl) ?_)
  have hm := nums_none
  clear hm
  go_loopw [14] (fun i wr => ∃ k : Nat, i = .int .i64 k ∧ k ≤ 12 ∧ NoVerb word.data.toList k ∧ Below w.heap.size w wr) (fun i _ => 12 - (intOf i).toNat)
  case atStart => exact ⟨0, rfl, Nat.zero_le _, fun j h1 h2 => absurd h2 (by omega), Below.refl _ _⟩
  case round =>
    rename World => wo
    obtain ⟨k, rfl, hk, hno, hb⟩ := hrel
    by_cases hlt : k < 12
    · obtain ⟨⟨wk, ak⟩, hp⟩ : ∃ p, vtab[k]? = some p := ⟨vtab[k], List.getElem?_eq_getElem (by rw [vtab_len]; exact hlt)⟩
      have hidx := idx_at k hlt _ hp
      simp only at hidx
      have hfr := hf0.below hb
      by_cases he : wk.toList = word.toList
      · by_cases hk0 : k = 0
        · have t0 : ((k : Int) == 0) = true := by simp [hk0]
          have K0 := Lib.hid hk0
          clear hk0
          go_wp2_with fail
          go_roundw
          case rel => exact ⟨k + 1, by go_num, hlt, hno.next (fun p _ h1 => absurd h1 (by have := K0.out; omega)), hb.trans ((((Below.refl _ _).alloc hb.size _)))⟩
          case measure => simp [intOf]; omega
        · have t0 : ((k : Int) == 0) = false := by rw [beq_eq_false_iff_ne]; omega
          have hfind := verb_hit hno (by omega) hp (by rw [← Lib.toList_data, he, Lib.toList_data])
          have HP := Lib.hid hp
          have HW := Lib.hid hfind
          clear hfind hp hno
          go_upto_if 35 with fail
          go_cut [10] (fun ok wx => ∃ b : Bool, ok = .bool b ∧ ActPre wo wk ak k fs 0 b wx)
          case first =>
            by_cases h10 : k = 10
            · have t10 : ((k : Int) == 10) = true := by simp [h10]
              have H10 := Lib.hid h10
              clear h10
              go_wp2_with (go_at_call 60; (refine (submit_all (wo.heap.size + 1) _ fs (actW wo wk ak (k : Int)) (k : Int) (by have := H10.out; omega) (actW_p _ _ _ _) (hfr.below (actW_below _ _ _ _)) hn ht).mono ?_); intro e w' hsub; obtain ⟨b, rfl, hpre⟩ := pre_submit H10.out HP.out hsub)
              go_meet
              case rel => exact ⟨b, rfl, hpre⟩
            · have t10 : ((k : Int) == 10) = false := by rw [beq_eq_false_iff_ne]; omega
              have hpre := pre_args (wr := wo) (wk := wk) (ak := ak) (fs := fs) h10
              clear h10
              go_wp2_with fail
              go_meet
              case rel => exact ⟨_, rfl, hpre⟩
          case rest =>
            obtain ⟨b, rfl, hpre⟩ := hcut
            clear hfr hidx he hk0 t0 hg0
            go_wp2_with fail
            go_loopw [10, 11] (fun ok i w2 => ∃ (b : Bool) (j : Nat), ok = .bool b ∧ i = .int .i64 j ∧ ActPre wo wk ak k fs j b w2) (fun ok i _ => (match ok with | .bool true => 1 | _ => 0) + ak.size - (intOf i).toNat)
            case atStart => exact ⟨b, 0, rfl, rfl, hpre⟩
            case round =>
              clear hpre
              rename World => w2
              obtain ⟨b, j, rfl, rfl, hb2, hz2, hpre⟩ := hrel
              have hbw : Below w.heap.size w w2 := hb.trans (hb2.mono hb.size)
              have hr2 := hr.below hbw
              have hf2 := hf0.below hbw
              obtain ⟨a4, c4, hva⟩ := own_shape hr2.cli
              subst hva
              have r4 := hr2.cell 4 (u := .slice a4 s.acts.length c4) rfl
              cases b with
              | false =>
                rw [if_neg (by simp)] at hpre
                go_wp2_with (go_at_call 35; (with_reducible refine (wrong_any _ _).mono ?_); rintro e w3 ⟨rfl, rfl⟩)
                go_ret
                refine line_err (hbw.mono hB) (Fr.of_below hbw) (Nat.le_trans hB hbw.size) ?_
                exact actS_bad HW.out hpre
              | true =>
                rw [if_pos rfl] at hpre
                obtain ⟨x, v, hact, hlen, hj, hargs⟩ := hpre
                have q1 := hact.args
                by_cases hjl : j < ak.size
                · have h10 : ¬ k = 10 := by
                    intro e
                    have := verbSubmit k e _ HP.out
                    simp only at this
                    subst this
                    simp [ByteArray.size] at hjl
                  have er : actRest k fs = fs := by simp [actRest, h10]
                  rw [er] at hlen hargs
                  have hjf : j < fs.length := by omega
                  obtain ⟨g, o, c', e, -, hcel⟩ := hf2.cells (fun e => by subst e; simp at hjf)
                  injection e with e1 e9 e2
                  subst e1
                  clear e9 e2
                  obtain ⟨x1, x2⟩ := hcel j hjf
                  clear hcel hf2 hf0
                  have hd := drop_cons ak j hjl
                  rw [hd, List.drop_eq_getElem_cons hjf] at hargs
                  have hlet : ak[j] = 112 ∨ ak[j] = 113 ∨ ak[j] = 100 ∨ ak[j] = 110 := letters _ (List.mem_of_getElem? HP.out) _ (by
                    have : ak[j] = ak.data.toList[j]'(by simpa using hjl) := rfl
                    rw [this]; exact List.getElem_mem _)
                  have htl := ht fs[j] (List.getElem_mem hjf)
                  have HA := Lib.hid hargs
                  have HL := Lib.hid hlen
                  have HJ := Lib.hid hjf
                  clear hargs hd hlen
                  by_cases l1 : ak[j].toNat = 112
                  · have m0 : ((ak[j].toNat : Int) == 112) = true := by simp [l1]
                    have ec : ak[j] = 112 := by apply UInt8.toNat_inj.1; rw [l1]; rfl
                    have EC := Lib.hid ec
                    clear ec hlet l1
                    have y1 := hact.cell 1 (u := .string ⟨x.path.toArray⟩) rfl
                    have z1 := hact.free 1
                    go_wp2_with fail
                    go_roundw
                    case rel => exact ⟨true, j + 1, rfl, by go_num, pre_next (hb2.setCell (Nat.le_succ _) _) (by rw [size_set]; exact hz2) (hact.set (x' := { x with path := fs[j].text }) 1 _ rfl rfl) (by rw [er]; exact HL.out) hjl rfl (by have := HA.out; rw [EC.out, args_p] at this; rw [er]; exact this)⟩
                    case measure => simp [intOf]; omega
                  · by_cases l2 : ak[j].toNat = 113
                    · have m0 : ((ak[j].toNat : Int) == 112) = false := by rw [beq_eq_false_iff_ne]; omega
                      have m1 : ((ak[j].toNat : Int) == 113) = true := by simp [l2]
                      have ec : ak[j] = 113 := by apply UInt8.toNat_inj.1; rw [l2]; rfl
                      have EC := Lib.hid ec
                      clear ec hlet l1 l2
                      have y2 := hact.cell 2 (u := .string ⟨x.«to».toArray⟩) rfl
                      have z2 := hact.free 2
                      go_wp2_with fail
                      go_roundw
                      case rel => exact ⟨true, j + 1, rfl, by go_num, pre_next (hb2.setCell (Nat.le_succ _) _) (by rw [size_set]; exact hz2) (hact.set (x' := { x with «to» := fs[j].text }) 2 _ rfl rfl) (by rw [er]; exact HL.out) hjl rfl (by have := HA.out; rw [EC.out, args_q] at this; rw [er]; exact this)⟩
                      case measure => simp [intOf]; omega
                    · by_cases l3 : ak[j].toNat = 100
                      · have m0 : ((ak[j].toNat : Int) == 112) = false := by rw [beq_eq_false_iff_ne]; omega
                        have m1 : ((ak[j].toNat : Int) == 113) = false := by rw [beq_eq_false_iff_ne]; omega
                        have m2 : ((ak[j].toNat : Int) == 100) = true := by simp [l3]
                        have ec : ak[j] = 100 := by apply UInt8.toNat_inj.1; rw [l3]; rfl
                        have EC := Lib.hid ec
                        clear ec hlet l1 l2 l3
                        have y3 := hact.cell 3 (u := .string ⟨x.data.toArray⟩) rfl
                        have z3 := hact.free 3
                        go_wp2_with fail
                        go_roundw
                        case rel => exact ⟨true, j + 1, rfl, by go_num, pre_next (hb2.setCell (Nat.le_succ _) _) (by rw [size_set]; exact hz2) (hact.set (x' := { x with data := fs[j].text }) 3 _ rfl rfl) (by rw [er]; exact HL.out) hjl rfl (by have := HA.out; rw [EC.out, args_d] at this; rw [er]; exact this)⟩
                        case measure => simp [intOf]; omega
                      · have ec : ak[j] = 110 := by rcases hlet with h | h | h | h <;> first | exact h | (rw [h] at l1 l2 l3; exact absurd rfl l1) | (rw [h] at l1 l2 l3; exact absurd rfl l2) | (rw [h] at l1 l2 l3; exact absurd rfl l3)
                        have m0 : ((ak[j].toNat : Int) == 112) = false := by rw [beq_eq_false_iff_ne]; omega
                        have m1 : ((ak[j].toNat : Int) == 113) = false := by rw [beq_eq_false_iff_ne]; omega
                        have m2 : ((ak[j].toNat : Int) == 100) = false := by rw [beq_eq_false_iff_ne]; omega
                        have m3 : ((ak[j].toNat : Int) == 110) = true := by rw [ec]; rfl
                        have EC := Lib.hid ec
                        clear ec hlet l1 l2 l3
                        cases hnk : number fs[j] with
                        | none =>
                          have HN := Lib.hid hnk
                          clear hnk
                          go_wp2_with (go_at_call 38; (with_reducible refine (number_none fs[j] htl HN.out _).mono ?_); rintro e w' ⟨rfl, hb5⟩; have hact' := hact.below hb5; have y4 := hact'.cell 4 (u := .int .i64 x.quota) rfl; have z4 := hact'.free 4)
                          go_roundw
                          case rel => exact ⟨false, j + 1, rfl, by go_num, (hb2.trans (hb5.mono hb2.size)).setCell (Nat.le_succ _) _, by rw [size_set]; exact Nat.lt_of_lt_of_le hz2 hb5.size, by rw [if_neg (by simp)]; have := HA.out; rw [EC.out] at this; exact this.symm.trans (args_no _ _ _ _ HN.out)⟩
                          case measure => simp [intOf]; omega
                        | some n =>
                          have HN := Lib.hid hnk
                          clear hnk
                          go_wp2_with (go_at_call 38; (with_reducible refine (number_some fs[j] htl n HN.out _).mono ?_); rintro e w' ⟨rfl, hb5⟩; have hact' := hact.below hb5; have y4 := hact'.cell 4 (u := .int .i64 x.quota) rfl; have z4 := hact'.free 4)
                          go_roundw
                          case rel => exact ⟨true, j + 1, rfl, by go_num, pre_next ((hb2.trans (hb5.mono hb2.size)).setCell (Nat.le_succ _) _) (by rw [size_set]; exact Nat.lt_of_lt_of_le hz2 hb5.size) (hact'.set (x' := { x with quota := n }) 4 _ rfl rfl) (by rw [er]; exact HL.out) hjl rfl (by have := HA.out; rw [EC.out] at this; rw [er]; exact (args_n _ _ _ _ _ HN.out).symm.trans this)⟩
                          case measure => simp [intOf]; omega
                · have hje : j = ak.size := by omega
                  subst hje
                  have hres : actOf k ak.data.toList fs = some x := by
                    rw [List.drop_eq_nil_of_le (by simp), List.drop_eq_nil_of_le (by rw [hlen]; exact Nat.le_refl _)] at hargs
                    exact hargs.symm
                  have HRES := Lib.hid hres
                  clear hres hargs hlen hj hjl
                  by_cases hna : s.acts.length = 0
                  · have n0 : ((s.acts.length : Int) == 0) = true := by simp [hna]
                    have HNA := Lib.hid hna
                    clear hna
                    go_wp2_with (go_at_call 35; (with_reducible refine (wrong_any _ _).mono ?_); rintro e w3 ⟨rfl, rfl⟩)
                    go_ret
                    exact line_err (hbw.mono hB) (Fr.of_below hbw) (Nat.le_trans hB hbw.size) (actS_three HW.out HRES.out (List.length_eq_zero_iff.1 HNA.out))
                  · have n0 : ((s.acts.length : Int) == 0) = false := by rw [beq_eq_false_iff_ne]; omega
                    go_wp2_with fail
                    obtain ⟨g4, c4', e4, hcel4⟩ := own_cell hr2.cli (by omega)
                    injection e4 with e5 e6 e7
                    subst e5 e7
                    clear e6
                    obtain ⟨vi, vl, li, ll, evs, eac, hinitw, ⟨cs, hownw, hcsw⟩, hB01⟩ : ∃ vi vl li ll, vs = vi ++ [vl] ∧ s.acts = li ++ [ll] ∧ InitC w B0 B1 vi li ∧ (∃ cs, w.ownsRow B1 51 11 vl ll.length cs ∧ ActsAt w B0 ll cs) ∧ B0 ≤ B1 := by
                      rcases hr.all with ⟨_, e⟩ | h
                      · exact absurd (by rw [e]; rfl) hna
                      · exact h
                    have hinit := hinitw.imp (w' := w2) (fun _ _ _ k => own_below k hbw) (fun _ _ _ _ k => own_below k hbw)
                    have hown := own_below hownw hbw
                    have hcs := hcsw.imp (w' := w2) fun _ _ _ k => own_below k hbw
                    have hlw := hownw.lt
                    clear hinitw hcsw hownw
                    have hvi : vi.length = s.acts.length - 1 := by
                      have := hr2.cli.1
                      rw [evs] at this
                      simp at this
                      omega
                    have hvl := hcel4 (s.acts.length - 1) vl (by rw [evs, ← hvi]; simp)
                    obtain ⟨al, cl, hvle⟩ := own_shape hown
                    subst hvle
                    have hll : ll.length ≤ 1048576 := hac ll (by rw [eac]; simp)
                    obtain ⟨av, cv, hve⟩ := own_shape hact.ins
                    subst hve
                    obtain ⟨i51, hi51, hz51, hs51, hb51⟩ := info_parts info51
                    generalize hnn : s.acts.length = n at *
                    have hnle := own_le hr2.cli
                    obtain ⟨m, rfl⟩ : ∃ m, n = m + 1 := ⟨n - 1, by omega⟩
                    simp only [Nat.add_sub_cancel] at hvl hvi
                    obtain ⟨cur4, fz4, hg4⟩ := own_kind hr2.cli g4 rfl
                    have lr := hr2.lt
                    have l4 : g4 < w2.heap.size := (Array.getElem?_eq_some_iff.1 hg4).1
                    have lp : wo.heap.size + 1 < w2.heap.size := hz2
                    have ag : (Value.slice al ll.length cl).ownBlock ≠ some g4 := fun e => by
                      obtain ⟨c, fz, k⟩ := own_kind hown g4 e
                      rw [hg4] at k; injection k with k; injection k with _ k; cases k
                    have ar : (Value.slice al ll.length cl).ownBlock ≠ some r := fun e => by
                      obtain ⟨c, fz, k⟩ := own_kind hown r e
                      rw [hr2.obj] at k; injection k with k; injection k with _ k; cases k
                    have ap : (Value.slice al ll.length cl).ownBlock ≠ some (wo.heap.size + 1) := fun e => by
                      have h1 := (hlw _ e).2
                      have h2 := hb.size
                      omega
                    have hfz : w2.frozen? ⟨g4, m, none⟩ = false := by
                      rcases hr2.cli.2 with ⟨e, _⟩ | ⟨g, cap, cur, e, _, k, _⟩
                      · cases e
                      · injection e with e _ _
                        injection e with e
                        injection e with e
                        subst e
                        simp [World.frozen?, k]
                    have PR : w2.rangeAt (wo.heap.size + 1) 0 (actCells x (.slice av x.job.inputs.length cv)) := fun j u hu => by have := hact.cell j hu; simpa using this
                    have P0 := hact.cell 0 rfl
                    have P1 := hact.cell 1 rfl
                    have P2 := hact.cell 2 rfl
                    have P3 := hact.cell 3 rfl
                    have P4 := hact.cell 4 rfl
                    have P5 := hact.cell 5 rfl
                    have P6 := hact.cell 6 rfl
                    have P7 := hact.cell 7 rfl
                    have P8 := hact.cell 8 rfl
                    have P9 := hact.cell 9 rfl
                    have P10 := hact.cell 10 rfl
                    have W1 : IntKind.i64.wrap (m : Int) = (m : Int) := IntWalk.i64_in _ (by omega)
                    have W2 : IntKind.i64.wrap ((m : Int) + 1 - 1) = (m : Int) := by rw [Int.add_sub_cancel]; exact W1
                    have N0 : (0 : Int) ≤ (m : Int) := by omega
                    have N1 : (m : Int) < (m : Int) + 1 := by omega
                    have hfa : ∀ o, (w2.alloc o).frozen? ⟨g4, m, none⟩ = false := fun o => by simp only [World.frozen?, heap_alloc_old w2 o l4]; exact hfz
                    clear hnle
                    have hvla : ∀ o, (w2.alloc o).cell? ⟨g4, m, none⟩ = some (.slice al ll.length cl) := fun o => by simp only [World.cell?, heap_alloc_old w2 o l4]; exact hvl
                    have rg : ¬ r = g4 := fun e => by
                      have h1 := hr2.obj
                      rw [e, hg4] at h1
                      injection h1 with h1; injection h1 with _ h1; cases h1
                    have rg' : ¬ g4 = r := fun e => rg e.symm
                    have pg : ¬ wo.heap.size + 1 = g4 := fun e => by
                      have h1 := hact.obj
                      rw [e, hg4] at h1
                      injection h1 with h1; injection h1 with _ h1; cases h1
                    have pg' : ¬ g4 = wo.heap.size + 1 := fun e => pg e.symm
                    have r4a : ∀ o, (w2.alloc o).cell? ⟨r, 4, none⟩ = some (.slice (some ⟨g4, 0, none⟩) (m + 1) c4) := fun o => by simp only [World.cell?, heap_alloc_old w2 o lr]; exact r4
                    have hB1s : B1 ≤ ((w2.alloc (.cells (actCells x (.slice av x.job.inputs.length cv)).toArray 51)).drew).heap.size := by
                      show B1 ≤ (w2.alloc _).heap.size
                      have := hr2.le
                      simp; omega
                    have hins0 := own_mono hact.ins (Nat.le_trans hB hb.size)
                    have hbw2 := hbw.mono hB
                    have hfw : Fr TL w w2 := Fr.of_below hbw
                    have hg4B := own_ge hr2.cli g4 rfl
                    have hacne : s.acts ≠ [] := by rw [eac]; simp
                    go_cut [] (fun wx => ∃ vl', ReaderIs B0 wx r { s with acts := addAct s.acts x } (.slice (some ⟨g4, 0, none⟩) (m + 1) c4) vc (vi ++ [vl']) B1 ∧ Below B0 w wx ∧ Fr TL w wx)
                    case first =>
                      clear hr hf0 hB h0 hac hn ht hcap hb hlt HP HW hf2 q1 HRES n0 hcel4 hvi hlw PR
                      refine start_ (n := 21) (S := fun w' : World => w'.cell? ⟨r, 4, none⟩ = some (.slice (some ⟨g4, 0, none⟩) (m + 1) c4) ∧ w'.cell? ⟨g4, m, none⟩ = some (.slice al ll.length cl) ∧ w'.frozen? ⟨g4, m, none⟩ = false ∧ w'.cell? ⟨wo.heap.size + 1, 0, none⟩ = some (.int .i64 x.kind) ∧ w'.cell? ⟨wo.heap.size + 1, 1, none⟩ = some (.string ⟨x.path.toArray⟩) ∧ w'.cell? ⟨wo.heap.size + 1, 2, none⟩ = some (.string ⟨x.«to».toArray⟩) ∧ w'.cell? ⟨wo.heap.size + 1, 3, none⟩ = some (.string ⟨x.data.toArray⟩) ∧ w'.cell? ⟨wo.heap.size + 1, 4, none⟩ = some (.int .i64 x.quota) ∧ w'.cell? ⟨wo.heap.size + 1, 5, none⟩ = some (.string ⟨x.job.program.toArray⟩) ∧ w'.cell? ⟨wo.heap.size + 1, 6, none⟩ = some (.string ⟨x.job.output.toArray⟩) ∧ w'.cell? ⟨wo.heap.size + 1, 7, none⟩ = some (.slice av x.job.inputs.length cv) ∧ w'.cell? ⟨wo.heap.size + 1, 8, none⟩ = some (.int .i64 x.job.parts) ∧ w'.cell? ⟨wo.heap.size + 1, 9, none⟩ = some (.int .i64 x.job.split) ∧ w'.cell? ⟨wo.heap.size + 1, 10, none⟩ = some (.int .i64 x.job.spill)) (ds := [20]) #[false, false, false, false, false, false, false, false, false, false, false, false, false, false, false, false, false, false, false, false, false] (by kernel_rfl) rfl rfl ⟨r4, hvl, hfz, P0, P1, P2, P3, P4, P5, P6, P7, P8, P9, P10⟩ (fun hHeld => ?_)
                      refine pure_ (i := 0) (N := some 101) (v := ?_) (a' := ?_) #[true, false, false, false, false, false, false, false, false, false, false, false, false, false, false, false, false, false, false, false, false] rfl rfl (by kernel_rfl) (fun _ _ _ h => h) (Or.inl ⟨by rfl, ?_⟩) ?_ ?_
                      rotate_left
                      · intro w'
                        go_simp
                        with_reducible rfl
                      rotate_left
                      · simp only [Act.put, List.setIfInBounds_toArray, List.set_cons_zero, List.set_cons_succ]
                        rfl
                      refine pure_ (i := 1) (N := some 102) (v := ?_) (a' := ?_) #[true, true, false, false, false, false, false, false, false, false, false, false, false, false, false, false, false, false, false, false, false] rfl rfl (by kernel_rfl) (fun _ _ _ h => h) (Or.inl ⟨by rfl, ?_⟩) ?_ ?_
                      rotate_left
                      · intro w'
                        go_simp
                        with_reducible rfl
                      rotate_left
                      · simp only [Act.put, List.setIfInBounds_toArray, List.set_cons_zero, List.set_cons_succ]
                        rfl
                      refine pure_ (i := 2) (N := some 103) (v := ?_) (a' := ?_) #[true, true, true, false, false, false, false, false, false, false, false, false, false, false, false, false, false, false, false, false, false] rfl rfl (by kernel_rfl) (fun _ _ _ h => h) (Or.inl ⟨by rfl, ?_⟩) ?_ ?_
                      rotate_left
                      · intro w'
                        go_simp
                        with_reducible rfl
                      rotate_left
                      · simp only [Act.put, List.setIfInBounds_toArray, List.set_cons_zero, List.set_cons_succ]
                        rfl
                      refine pure_ (i := 3) (N := some 104) (v := ?_) (a' := ?_) #[true, true, true, true, false, false, false, false, false, false, false, false, false, false, false, false, false, false, false, false, false] rfl rfl (by kernel_rfl) (fun _ _ _ h => h) (Or.inl ⟨by rfl, ?_⟩) ?_ ?_
                      rotate_left
                      · intro w'
                        go_simp
                        with_reducible rfl
                      rotate_left
                      · simp only [Act.put, List.setIfInBounds_toArray, List.set_cons_zero, List.set_cons_succ]
                        rfl
                      refine take_ (i := 4) (N := some 105) (v := ?_) (a' := ?_) #[true, true, true, true, true, false, false, false, false, false, false, false, false, false, false, false, false, false, false, false, false] rfl rfl (by kernel_rfl) (fun _ _ _ h => h) (Or.inl ⟨by rfl, ?_⟩) hHeld ?_ ?_
                      rotate_left
                      · rintro w' ⟨s0, s1, s2, t0, t1, t2, t3, t4, t5, t6, t7, t8, t9, t10⟩
                        go_simp
                        with_reducible rfl
                      rotate_left
                      · simp only [Act.put, List.setIfInBounds_toArray, List.set_cons_zero, List.set_cons_succ]
                        rfl
                      refine pure_ (i := 5) (N := some 106) (v := ?_) (a' := ?_) #[true, true, true, true, true, true, false, false, false, false, false, false, false, false, false, false, false, false, false, false, false] rfl rfl (by kernel_rfl) (fun _ _ _ h => h) (Or.inl ⟨by rfl, ?_⟩) ?_ ?_
                      rotate_left
                      · intro w'
                        go_simp
                        with_reducible rfl
                      rotate_left
                      · simp only [Act.put, List.setIfInBounds_toArray, List.set_cons_zero, List.set_cons_succ]
                        rfl
                      refine pure_ (i := 6) (N := some 107) (v := ?_) (a' := ?_) #[true, true, true, true, true, true, true, false, false, false, false, false, false, false, false, false, false, false, false, false, false] rfl rfl (by kernel_rfl) (fun _ _ _ h => h) (Or.inl ⟨by rfl, ?_⟩) ?_ ?_
                      rotate_left
                      · intro w'
                        go_simp
                        with_reducible rfl
                      rotate_left
                      · simp only [Act.put, List.setIfInBounds_toArray, List.set_cons_zero, List.set_cons_succ]
                        rfl
                      refine pure_ (i := 7) (N := some 108) (v := ?_) (a' := ?_) #[true, true, true, true, true, true, true, true, false, false, false, false, false, false, false, false, false, false, false, false, false] rfl rfl (by kernel_rfl) (fun _ _ _ h => h) (Or.inl ⟨by rfl, ?_⟩) ?_ ?_
                      rotate_left
                      · intro w'
                        go_simp
                        with_reducible rfl
                      rotate_left
                      · simp only [Act.put, List.setIfInBounds_toArray, List.set_cons_zero, List.set_cons_succ]
                        rfl
                      refine pure_ (i := 8) (N := some 109) (v := ?_) (a' := ?_) #[true, true, true, true, true, true, true, true, true, false, false, false, false, false, false, false, false, false, false, false, false] rfl rfl (by kernel_rfl) (fun _ _ _ h => h) (Or.inl ⟨by rfl, ?_⟩) ?_ ?_
                      rotate_left
                      · intro w'
                        go_simp
                        with_reducible rfl
                      rotate_left
                      · simp only [Act.put, List.setIfInBounds_toArray, List.set_cons_zero, List.set_cons_succ]
                        rfl
                      refine pure_ (i := 9) (N := some 110) (v := ?_) (a' := ?_) #[true, true, true, true, true, true, true, true, true, true, false, false, false, false, false, false, false, false, false, false, false] rfl rfl (by kernel_rfl) (fun _ _ _ h => h) (Or.inl ⟨by rfl, ?_⟩) ?_ ?_
                      rotate_left
                      · intro w'
                        go_simp
                        with_reducible rfl
                      rotate_left
                      · simp only [Act.put, List.setIfInBounds_toArray, List.set_cons_zero, List.set_cons_succ]
                        rfl
                      refine pure_ (i := 10) (N := some 111) (v := ?_) (a' := ?_) #[true, true, true, true, true, true, true, true, true, true, true, false, false, false, false, false, false, false, false, false, false] rfl rfl (by kernel_rfl) (fun _ _ _ h => h) (Or.inl ⟨by rfl, ?_⟩) ?_ ?_
                      rotate_left
                      · intro w'
                        go_simp
                        with_reducible rfl
                      rotate_left
                      · simp only [Act.put, List.setIfInBounds_toArray, List.set_cons_zero, List.set_cons_succ]
                        rfl
                      refine take_ (i := 11) (N := some 112) (v := ?_) (a' := ?_) #[true, true, true, true, true, true, true, true, true, true, true, true, false, false, false, false, false, false, false, false, false] rfl rfl (by kernel_rfl) (fun _ _ _ h => h) (Or.inl ⟨by rfl, ?_⟩) hHeld ?_ ?_
                      rotate_left
                      · rintro w' ⟨s0, s1, s2, t0, t1, t2, t3, t4, t5, t6, t7, t8, t9, t10⟩
                        go_simp
                        with_reducible rfl
                      rotate_left
                      · simp only [Act.put, List.setIfInBounds_toArray, List.set_cons_zero, List.set_cons_succ]
                        rfl
                      refine pure_ (i := 12) (N := some 113) (v := ?_) (a' := ?_) #[true, true, true, true, true, true, true, true, true, true, true, true, true, false, false, false, false, false, false, false, false] rfl rfl (by kernel_rfl) (fun _ _ _ h => h) (Or.inl ⟨by rfl, ?_⟩) ?_ ?_
                      rotate_left
                      · intro w'
                        go_simp
                        with_reducible rfl
                      rotate_left
                      · simp only [Act.put, List.setIfInBounds_toArray, List.set_cons_zero, List.set_cons_succ]
                        rfl
                      refine pure_ (i := 13) (N := some 114) (v := ?_) (a' := ?_) #[true, true, true, true, true, true, true, true, true, true, true, true, true, true, false, false, false, false, false, false, false] rfl rfl (by kernel_rfl) (fun _ _ _ h => h) (Or.inl ⟨by rfl, ?_⟩) ?_ ?_
                      rotate_left
                      · intro w'
                        go_simp
                        with_reducible rfl
                      rotate_left
                      · simp only [Act.put, List.setIfInBounds_toArray, List.set_cons_zero, List.set_cons_succ]
                        rfl
                      refine pure_ (i := 14) (N := some 115) (v := ?_) (a' := ?_) #[true, true, true, true, true, true, true, true, true, true, true, true, true, true, true, false, false, false, false, false, false] rfl rfl (by kernel_rfl) (fun _ _ _ h => h) (Or.inl ⟨by rfl, ?_⟩) ?_ ?_
                      rotate_left
                      · intro w'
                        go_simp
                        with_reducible rfl
                      rotate_left
                      · simp only [Act.put, List.setIfInBounds_toArray, List.set_cons_zero, List.set_cons_succ]
                        rfl
                      refine take_ (i := 15) (N := some 116) (v := ?_) (a' := ?_) #[true, true, true, true, true, true, true, true, true, true, true, true, true, true, true, true, false, false, false, false, false] rfl rfl (by kernel_rfl) (fun _ _ _ h => h) (Or.inl ⟨by rfl, ?_⟩) hHeld ?_ ?_
                      rotate_left
                      · rintro w' ⟨s0, s1, s2, t0, t1, t2, t3, t4, t5, t6, t7, t8, t9, t10⟩
                        go_simp
                        with_reducible rfl
                      rotate_left
                      · simp only [Act.put, List.setIfInBounds_toArray, List.set_cons_zero, List.set_cons_succ]
                        rfl
                      refine take_ (i := 16) (N := some 117) (v := ?_) (a' := ?_) #[true, true, true, true, true, true, true, true, true, true, true, true, true, true, true, true, true, false, false, false, false] rfl rfl (by kernel_rfl) (fun _ _ _ h => h) (Or.inl ⟨by rfl, ?_⟩) hHeld ?_ ?_
                      rotate_left
                      · rintro w' ⟨s0, s1, s2, t0, t1, t2, t3, t4, t5, t6, t7, t8, t9, t10⟩
                        go_simp
                        with_reducible rfl
                      rotate_left
                      · simp only [Act.put, List.setIfInBounds_toArray, List.set_cons_zero, List.set_cons_succ]
                        rfl
                      refine one_ (i := 17) (N := some 118) #[true, true, true, true, true, true, true, true, true, true, true, true, true, true, true, true, true, true, false, false, false] rfl rfl (by kernel_rfl) (by decide) (fun K hK => ?_)
                      go_simp
                      refine hK.out _ _ ⟨r4a _, hvla _, hfa _, ?_⟩ (fun hHeld => ?_)
                      · refine ⟨?_, ?_, ?_, ?_, ?_, ?_, ?_, ?_, ?_, ?_, ?_⟩ <;> (simp only [World.cell?, World.drew, heap_alloc_old w2 _ lp]; first | exact P0 | exact P1 | exact P2 | exact P3 | exact P4 | exact P5 | exact P6 | exact P7 | exact P8 | exact P9 | exact P10)
                      refine one_ (i := 18) (N := some 119) #[true, true, true, true, true, true, true, true, true, true, true, true, true, true, true, true, true, true, true, false, false] rfl rfl (by kernel_rfl) (by decide) (fun K hK => ?_)
                      refine step_append_lies _ (by rfl) _ _ _ (by rfl) B1 51 i51 _ 11 144 Tryz.underlying46 hi51 hz51 hs51 hb51 rfl (by omega) (.slice al ll.length cl) ll.length cs (by rfl) ((hown.alloc _).drew) ⟨w2.heap.size, 0, none⟩ 1 1 (actCells x (.slice av x.job.inputs.length cv)) (by rfl) (by rfl) (World.news_of_block (cs := (actCells x (.slice av x.job.inputs.length cv)).toArray) (t := 51) (fr := (0, 0)) (heap_alloc_new w2 _)) (by simp [actCells, Value.oneCell']) (by omega) (by unfold maxLen; omega) (by omega) hB1s (w2.heap.size + 1) (by simp) ?_
                      intro gg cap w1 hown1 hgrow hat hlt1
                      have far : ∀ a' : Addr, a'.block < w2.heap.size → some a'.block ≠ (Value.slice al ll.length cl).ownBlock → w1.cell? a' = w2.cell? a' := fun a' h1 h2 => by
                        rw [hgrow.cell_far _ (by show a'.block < (w2.alloc _).heap.size; simp; omega) h2]
                        simp only [World.cell?, World.drew, heap_alloc_old w2 _ h1]
                      refine hK.out _ _ ⟨(far _ lr (Ne.symm ar)).trans r4, (far _ l4 (Ne.symm ag)).trans hvl, ?_, (far _ lp (Ne.symm ap)).trans P0, (far _ lp (Ne.symm ap)).trans P1, (far _ lp (Ne.symm ap)).trans P2, (far _ lp (Ne.symm ap)).trans P3, (far _ lp (Ne.symm ap)).trans P4, (far _ lp (Ne.symm ap)).trans P5, (far _ lp (Ne.symm ap)).trans P6, (far _ lp (Ne.symm ap)).trans P7, (far _ lp (Ne.symm ap)).trans P8, (far _ lp (Ne.symm ap)).trans P9, (far _ lp (Ne.symm ap)).trans P10⟩ (fun hHeld => ?_)
                      · rw [hgrow.frozen_far _ (by show g4 < (w2.alloc _).heap.size; simp; omega) (Ne.symm ag)]; exact hfa _
                      refine pure_ (i := 19) (N := some 120) (v := ?_) (a' := ?_) #[true, true, true, true, true, true, true, true, true, true, true, true, true, true, true, true, true, true, true, true, false] rfl rfl (by kernel_rfl) (fun _ _ _ h => h) (Or.inl ⟨by rfl, ?_⟩) ?_ ?_
                      rotate_left
                      · intro w'
                        go_simp
                        with_reducible rfl
                      rotate_left
                      · simp only [Act.put, List.setIfInBounds_toArray, List.set_cons_zero, List.set_cons_succ]
                        rfl
                      refine last_ (i := 20) (N := none) #[true, true, true, true, true, true, true, true, true, true, true, true, true, true, true, true, true, true, true, true, true] rfl rfl (by kernel_rfl) (by decide) (fun K hK => ?_)
                      obtain ⟨_, c9, f9, -⟩ := hHeld
                      go_simp
                      refine hK.out _ _ (done_ (by kernel_rfl) ?_)
                      go_wp2_with fail
                      go_meet
                      case rel =>
                        obtain ⟨hfr1, hbe1⟩ := act_after hown hr2.le hgrow
                        refine ⟨.slice (some ⟨gg, 0, none⟩) (ll.length + 1) cap, ?_, (hbw2.trans (hbe1.mono hB01)).setCell hg4B _, (hfw.trans (hfr1.mono (by simp))).setCell _ _ (hfr1 g4 _ hg4 (fun c t fz e => by injection e with _ e1; subst e1; decide)) (by decide)⟩
                        exact ReaderIs.act hnn hr2 evs eac hinit hB01 hcs hins0 hown1 hfr1 hbe1
                    case rest =>
                      obtain ⟨vl', hrd, hbx, hfx⟩ := hcut
                      have hok := actS_ok HW.out HRES.out hacne
                      have HOK := Lib.hid hok
                      clear hok
                      go_wp2_with fail
                      go_ret
                      refine ⟨hbx, hfx, ?_⟩
                      rw [HOK.out]
                      exact ⟨rfl, _, _, _, _, hrd⟩
      · go_wp2_with fail
        go_roundw
        case rel => exact ⟨k + 1, by go_num, hlt, hno.next (fun p hp' _ e => he (by rw [hp] at hp'; cases hp'; rw [Lib.toList_data, Lib.toList_data]; exact e)), hb.trans ((((Below.refl _ _).alloc hb.size _)))⟩
        case measure => simp [intOf]; omega
    · have hke : k = 12 := by omega
      subst hke
      go_wp2_with (go_at_call 35; (with_reducible refine (wrong_any _ _).mono ?_); rintro e w2 ⟨rfl, rfl⟩)
      go_ret
      refine line_err (hb.mono hB) (Fr.of_below hb) (Nat.le_trans hB hb.size) ?_
      rw [actS, verb_none hno]
end Go.Proofs.YtmkmkccdlopogaaGreatDoor.Con
