/- The walk of Show. -/
import Derived.Test.YtmkmkccdlopogaaGreatDoorProg
import Derived.Test.YtmkmkccdlopogaaGreatDoorConSa
set_option linter.unusedVariables false
set_option linter.unusedSimpArgs false
namespace Go.Proofs.YtmkmkccdlopogaaGreatDoor.Con
open Go.RowKit

theorem InitC.at {w : World} {B0 B1 : Nat} : ∀ {vs : List Value} {ls : List (List Act)}, InitC w B0 B1 vs ls → ∀ k (h : k < ls.length), ∃ v, vs[k]? = some v ∧ ClientAt w B0 v ls[k]
  | [], [], _, k, h => by simp at h
  | v :: vs, l :: ls, ⟨k1, _, k3⟩, 0, _ => ⟨v, rfl, k1⟩
  | v :: vs, l :: ls, ⟨k1, _, k3⟩, k + 1, h => by
    obtain ⟨v', e1, e2⟩ := InitC.at k3 k (by simpa using h)
    exact ⟨v', by simpa using e1, by simpa using e2⟩
theorem InitC.len {w : World} {B0 B1 : Nat} : ∀ {vs : List Value} {ls : List (List Act)}, InitC w B0 B1 vs ls → vs.length = ls.length
  | [], [], _ => rfl
  | _ :: _, _ :: _, ⟨_, _, k⟩ => by simp [InitC.len k]
theorem CliAt.at {w : World} {B0 B1 : Nat} {vs : List Value} {ls : List (List Act)} (h : CliAt w B0 B1 vs ls) (k : Nat) (hk : k < ls.length) : ∃ v, vs[k]? = some v ∧ ClientAt w B0 v ls[k] := by
  rcases h with ⟨rfl, rfl⟩ | ⟨vi, vl, li, ll, rfl, rfl, k1, ⟨cs, k2, k3⟩, k4⟩
  · simp at hk
  · have hl := k1.len
    by_cases h1 : k < li.length
    · obtain ⟨v, e1, e2⟩ := k1.at k h1
      refine ⟨v, by rw [List.getElem?_append_left (by omega)]; exact e1, ?_⟩
      rw [List.getElem_append_left h1]; exact e2
    · have h2 : k = li.length := by simp at hk; omega
      subst h2
      exact ⟨vl, by rw [← hl]; simp, by simp; exact ⟨cs, own_mono k2 k4, k3⟩⟩
theorem ActsAt.at {w : World} {B0 : Nat} : ∀ {l : List Act} {cs : List Value}, ActsAt w B0 l cs → ∀ j (h : j < l.length), ∃ v, w.ownsRow B0 9 1 v l[j].job.inputs.length (strs l[j].job.inputs) ∧ ∀ i u, (actCells l[j] v)[i]? = some u → cs[j * 11 + i]? = some u
  | [], _, _, j, h => by simp at h
  | a :: l, cs, ⟨v, rest, e, k1, k2⟩, 0, _ => ⟨v, k1, fun i u hi => by
      subst e
      have hlt := (List.getElem?_eq_some_iff.1 hi).1
      rw [List.getElem?_append_left (by simpa using hlt)]
      simpa using hi⟩
  | a :: l, cs, ⟨v, rest, e, k1, k2⟩, j + 1, h => by
    obtain ⟨v', q1, q2⟩ := ActsAt.at k2 j (by simpa using h)
    refine ⟨v', by simpa using q1, fun i u hi => ?_⟩
    have := q2 i u (by simpa using hi)
    subst e
    have hl : (actCells a v).length = 11 := rfl
    rw [List.getElem?_append_right (by omega), hl]
    have e2 : (j + 1) * 11 + i - 11 = j * 11 + i := by omega
    rw [e2]; exact this

def linesC (l : List (List Act)) : List (List B) := l.flatMap fun m => [wClient] :: actLines m
/-- what stands behind the five numbers -/
def restC (s : Script) : List (List B) := (if s.choices = [] then [] else [wChoose :: s.choices.map Lib.itoa]) ++ linesC s.acts
def restL (s : Script) : List (List B) := (if s.flips then [[wFlips]] else []) ++ restC s
theorem showLines_rest (s : Script) : showLines s = [wNodes, Lib.itoa s.nodes] :: [wReplicas, Lib.itoa s.replicas] :: [wBlock, Lib.itoa s.block] :: [wRoom, Lib.itoa s.room] :: [wRounds, Lib.itoa s.rounds] :: restL s := by
  simp [showLines, restL, restC, linesC]
theorem line_new {w wr : World} {s : Script} {va vc : Value} {pre post : List (List B)} (l : List B) (h : SI w s va vc pre (l :: post) wr) (hn : 0 < l.length) (hn2 : l.length ≤ 1048576) (hlen : (showS s).length ≤ 70368744177664) :
    Calls Tryz.prog 12 #[.slice (some ⟨wr.heap.size, 0, none⟩) l.length l.length, .pointer (some ⟨w.heap.size + 1, 0, none⟩)] (wr.alloc (.cells (strs l).toArray 9)) fun e w' => e = .returned (.tuple #[]) ∧ SI w s va vc (pre ++ [l]) post w' := by
  refine (line_out (h.up ((Below.refl _ _).alloc (Nat.le_refl _) _)) (fresh_strs wr 0 l (Nat.zero_le _) hn2) hn (by omega) hlen).mono ?_
  rintro e w' ⟨rfl, h1, _⟩
  exact ⟨rfl, h1⟩
theorem line_two {w wr : World} {s : Script} {va vc : Value} {pre post : List (List B)} {x y : B} (h : SI w s va vc pre ([x, y] :: post) wr) (hlen : (showS s).length ≤ 70368744177664) :
    Calls Tryz.prog 12 #[.slice (some ⟨wr.heap.size, 0, none⟩) 2 2, .pointer (some ⟨w.heap.size + 1, 0, none⟩)] (wr.alloc (.cells #[.string ⟨x.toArray⟩, .string ⟨y.toArray⟩] 9)) fun e w' => e = .returned (.tuple #[]) ∧ SI w s va vc (pre ++ [[x, y]]) post w' :=
  line_new [x, y] h (by simp) (by simp) hlen
theorem line_one {w wr : World} {s : Script} {va vc : Value} {pre post : List (List B)} {x : B} (h : SI w s va vc pre ([x] :: post) wr) (hlen : (showS s).length ≤ 70368744177664) :
    Calls Tryz.prog 12 #[.slice (some ⟨wr.heap.size, 0, none⟩) 1 1, .pointer (some ⟨w.heap.size + 1, 0, none⟩)] (wr.alloc (.cells #[.string ⟨x.toArray⟩] 9)) fun e w' => e = .returned (.tuple #[]) ∧ SI w s va vc (pre ++ [[x]]) post w' :=
  line_new [x] h (by simp) (by simp) hlen

/-- a script that can be shown -/
structure SOK (s : Script) : Prop where
  n1 : I64 s.nodes
  n2 : I64 s.replicas
  n3 : I64 s.block
  n4 : I64 s.room
  n5 : I64 s.rounds
  ch : ∀ n ∈ s.choices, I64 n
  chl : s.choices.length ≤ 4398046511000
  al : s.acts.length ≤ 2097152
  ml : ∀ l ∈ s.acts, l.length ≤ 2097152
  ac : ∀ l ∈ s.acts, ∀ a ∈ l, showable a = true → ActOK a
  kd : ∀ l ∈ s.acts, ∀ a ∈ l, I64 a.kind
  len : (showS s).length ≤ 70368744177664

theorem SI.fr9 {w wr w' : World} {s : Script} {va vc : Value} {pre post : List (List B)} (h : SI w s va vc pre post wr) (hb : Below w.heap.size wr w') (hf : Fr [9] wr w') : SI w s va vc pre post w' := by
  refine ⟨h.below.trans hb, hf _ _ h.box (fun c t fz e => by injection e with _ e1; subst e1; decide), ?_, h.all⟩
  have key : ∀ p, Lib.BuilderAtF 60 5 w.heap.size (w.heap.size + 1) p (Lib.byteCells (outOf pre)) wr → Lib.BuilderAtF 60 5 w.heap.size (w.heap.size + 1) p (Lib.byteCells (outOf pre)) w' := fun p ⟨hB, v, hbk, hown, hne⟩ => by
    refine ⟨hB, v, hf _ _ hbk (fun c t fz e => by injection e with _ e1; subst e1; decide), ⟨hown.1, ?_⟩, hne⟩
    rcases hown.2 with h2 | ⟨g, cap, cur, fz, hv, hB, hg, r⟩
    · exact .inl h2
    · exact .inr ⟨g, cap, cur, fz, hv, hB, hf _ _ hg (fun c t fz e => by injection e with _ e1; subst e1; decide), r⟩
  exact h.bld.elim (fun x => .inl (key _ x)) (fun x => .inr (key _ x))
theorem linesC_drop (l : List (List Act)) (k : Nat) (h : k < l.length) : linesC (l.drop k) = [wClient] :: (actLines l[k] ++ linesC (l.drop (k + 1))) := by
  unfold linesC
  rw [List.drop_eq_getElem_cons h, List.flatMap_cons]
  rfl
theorem actLines_yes (l : List Act) (j : Nat) (h : j < l.length) (hs : showable l[j] = true) : actLines (l.drop j) = actTexts l[j] :: actLines (l.drop (j + 1)) := by
  unfold actLines
  rw [List.drop_eq_getElem_cons h, List.filter_cons_of_pos hs]
  rfl
theorem actLines_no (l : List Act) (j : Nat) (h : j < l.length) (hs : showable l[j] = false) : actLines (l.drop j) = actLines (l.drop (j + 1)) := by
  unfold actLines
  rw [List.drop_eq_getElem_cons h, List.filter_cons_of_neg (by rw [hs]; simp)]
theorem verbs_len2 : ∀ p ∈ verbs, p.2.length ≤ 2 := by decide
theorem actTexts_len (a : Act) (h : a.job.inputs.length ≤ 1048576) : 0 < (actTexts a).length ∧ (actTexts a).length ≤ 1048600 := by
  have h2 : (verbs.getD (a.kind.toNat - 1) ([], [])).2.length ≤ 2 := by
    rw [List.getD_eq_getElem?_getD]
    cases hv : verbs[a.kind.toNat - 1]? with
    | none => simp
    | some q => exact verbs_len2 q (List.mem_of_getElem? hv)
  unfold actTexts
  generalize verbs.getD (a.kind.toNat - 1) ([], []) = v at h2
  simp only [argTexts_map, List.cons_append, List.length_cons, List.length_append, List.length_map]
  split
  · simp only [List.length_append, List.length_map, List.length_cons, List.length_nil]; omega
  · simp; omega

set_option maxRecDepth 100000 in
set_option maxHeartbeats 4000000 in
theorem show_any (s : Script) (va vc : Value) (vs : List Value) (B0 B1 : Nat) (w : World) (hs : ScriptIs B0 w s va vc vs B1) (ho : SOK s) (hv : VB w) (ht : TB w) (h0 : 0 < w.heap.size) :
    Calls Tryz.prog 8 #[.agg (rcells s va vc)] w fun e w' => e = .returned (.string ⟨(showS s).toArray⟩) ∧ Below w.heap.size w w' := by
  obtain ⟨nc, hnc⟩ : ∃ nc, s.choices.length = nc := ⟨_, rfl⟩
  obtain ⟨na, hna⟩ : ∃ na, s.acts.length = na := ⟨_, rfl⟩
  have hcli := hs.cli
  have hcho := hs.cho
  rw [hnc] at hcho
  rw [hna] at hcli
  obtain ⟨a4, c4, rfl⟩ := own_shape hcli
  obtain ⟨a5, c5, rfl⟩ := own_shape hcho
  have hchl := ho.chl
  have hal := ho.al
  rw [hnc] at hchl
  rw [hna] at hal
  have HCHO := Lib.hid hcho
  have HCLI := Lib.hid hcli
  have HNC := Lib.hid hnc
  have HNA := Lib.hid hna
  clear hcho hcli hnc hna
  have hsi0 : SI w s (.slice a4 na c4) (.slice a5 nc c5) [] (showLines s) ((w.alloc (.cells (rcells s (.slice a4 na c4) (.slice a5 nc c5)) 28)).alloc (.cells #[.pointer none, .slice none 0 0] 60)) := by
    refine ⟨((Below.refl _ _).alloc (Nat.le_refl _) _).alloc (by simp) _, ?_, .inl ⟨Nat.le_succ _, .slice none 0 0, ?_, World.ownsRowF_nil _ _ _ _, by simp [Value.ownBlock]⟩, rfl⟩
    · rw [heap_alloc_old _ _ (by simp)]; exact heap_alloc_new _ _
    · have := heap_alloc_new (w.alloc (.cells (rcells s (.slice a4 na c4) (.slice a5 nc c5)) 28)) (.cells #[.pointer none, .slice none 0 0] 60)
      simpa using this
  rw [showLines_rest] at hsi0
  have HL := ho.len
  have HS := Lib.hid hs
  have HO := Lib.hid ho
  have HV := Lib.hid (And.intro hv ht)
  have HI := Lib.hid hsi0
  clear hs ho hv ht hsi0
  simp only [rcells]
  go_enter Tryz.func8, Tryz.ntmps8
  go_wp2_with fail
  refine (itoa_any s.nodes HO.out.n1 _ (HV.out.2.below HI.out.below)).mono ?_
  rintro e w1 ⟨rfl, hb1⟩
  have hs1 := HI.out.up hb1
  go_wp2_with fail
  refine (line_two hs1 HL).mono ?_
  rintro e w2 ⟨rfl, hs2⟩
  clear hs1 hb1
  have k2 := hs2.cell 1 (u := .int .i64 s.replicas) rfl
  go_wp2_with fail
  refine (itoa_any s.replicas HO.out.n2 _ (HV.out.2.below hs2.below)).mono ?_
  rintro e w3 ⟨rfl, hb3⟩
  have hs3 := hs2.up hb3
  clear k2
  go_wp2_with fail
  refine (line_two hs3 HL).mono ?_
  rintro e w4 ⟨rfl, hs4⟩
  clear hs2 hs3 hb3
  have k3 := hs4.cell 2 (u := .int .i64 s.block) rfl
  go_wp2_with fail
  refine (itoa_any s.block HO.out.n3 _ (HV.out.2.below hs4.below)).mono ?_
  rintro e w5 ⟨rfl, hb5⟩
  have hs5 := hs4.up hb5
  clear k3
  go_wp2_with fail
  refine (line_two hs5 HL).mono ?_
  rintro e w6 ⟨rfl, hs6⟩
  clear hs4 hs5 hb5
  have k4 := hs6.cell 3 (u := .int .i64 s.room) rfl
  go_wp2_with fail
  refine (itoa_any s.room HO.out.n4 _ (HV.out.2.below hs6.below)).mono ?_
  rintro e w7 ⟨rfl, hb7⟩
  have hs7 := hs6.up hb7
  clear k4
  go_wp2_with fail
  refine (line_two hs7 HL).mono ?_
  rintro e w8 ⟨rfl, hs8⟩
  clear hs6 hs7 hb7
  have k5 := hs8.cell 6 (u := .int .i64 s.rounds) rfl
  go_wp2_with fail
  refine (itoa_any s.rounds HO.out.n5 _ (HV.out.2.below hs8.below)).mono ?_
  rintro e w9 ⟨rfl, hb9⟩
  have hs9 := hs8.up hb9
  clear k5
  go_wp2_with fail
  refine (line_two hs9 HL).mono ?_
  rintro e w10 ⟨rfl, hs10⟩
  clear hs8 hs9 hb9
  have f7 := hs10.cell 7 (u := .bool s.flips) rfl
  obtain ⟨fl, hfl⟩ : ∃ fl, s.flips = fl := ⟨_, rfl⟩
  rw [hfl] at f7
  have HFL := Lib.hid hfl
  clear hfl
  have HS10 := Lib.hid hs10
  clear hs10 HI
  go_upto_if 44 with fail
  go_cut [] (fun wx => ∃ pre, SI w s (.slice a4 na c4) (.slice a5 nc c5) pre (restC s) wx)
  case first =>
    cases fl with
    | true =>
      have h10 := HS10.out
      rw [show restL s = [wFlips] :: restC s by simp [restL, HFL.out]] at h10
      have H10 := Lib.hid h10
      clear h10
      go_wp2_with fail
      refine (line_one H10.out HL).mono ?_
      rintro e w11 ⟨rfl, hs11⟩
      have H11 := Lib.hid hs11
      clear hs11
      go_wp2_with fail
      go_meet
      case rel => exact ⟨_, H11.out⟩
    | false =>
      have h10 := HS10.out
      rw [show restL s = restC s by simp [restL, HFL.out]] at h10
      have H10 := Lib.hid h10
      clear h10
      go_wp2_with fail
      go_meet
      case rel => exact ⟨_, H10.out⟩
  case rest =>
    clear HS10 f7
    rename World => w11
    obtain ⟨pre, h11⟩ := hcut
    have g5 := h11.cell 5 (u := .slice a5 nc c5) rfl
    have HS11 := Lib.hid h11
    clear h11
    obtain ⟨bz, hbz⟩ : ∃ bz, decide (0 < nc) = bz := ⟨_, rfl⟩
    have hbz' : decide ((0 : Int) < (nc : Int)) = bz := by rw [← hbz]; simp
    go_upto_if 51 with fail
    have HBZ := Lib.hid hbz
    clear hbz hbz'
    go_cut [] (fun wx => ∃ pre, SI w s (.slice a4 na c4) (.slice a5 nc c5) pre (linesC s.acts) wx)
    case first =>
      cases bz
      · have hcz : ¬ 0 < nc := of_decide_eq_false HBZ.out
        have hnil : s.choices = [] := List.length_eq_zero_iff.1 (by have := HNC.out; omega)
        clear hcz
        have h11 := HS11.out
        rw [show restC s = linesC s.acts by simp [restC, hnil]] at h11
        have H11 := Lib.hid h11
        clear h11 hnil
        go_wp2_with fail
        go_meet
        case rel => exact ⟨_, H11.out⟩
      · have hcz : 0 < nc := of_decide_eq_true HBZ.out
        have hnil : s.choices ≠ [] := fun e => by have h1 := HNC.out; rw [e] at h1; simp at h1; omega
        clear hcz
        have h11 := HS11.out
        rw [show restC s = (wChoose :: s.choices.map Lib.itoa) :: linesC s.acts by simp [restC, hnil]] at h11
        have H11 := Lib.hid (And.intro h11 (h11.fr9 ((Below.refl _ _).alloc h11.below.size (.cells #[.string ⟨#[99, 104, 111, 111, 115, 101]⟩] 9)) ((Fr.refl _ _).alloc _)))
        have g5' := H11.out.2.cell 5 (u := .slice a5 nc c5) rfl
        have H0 := Lib.hid (fresh_strs w11 w.heap.size [wChoose] h11.below.size (by simp))
        clear h11 hnil
        go_wp2_with fail
        go_loopw [5, 56] (fun f i wr => ∃ (k : Nat) (a : Option Addr) (c : Nat), i = .int .i64 k ∧ k ≤ nc ∧ f = .slice a (k + 1) c ∧ SI w s (.slice a4 na c4) (.slice a5 nc c5) pre ((wChoose :: s.choices.map Lib.itoa) :: linesC s.acts) wr ∧ wr.ownsRow w.heap.size 9 1 (.slice a (k + 1) c) (k + 1) (strs (wChoose :: (s.choices.take k).map Lib.itoa))) (fun _ i _ => nc - (intOf i).toNat)
        case atStart => exact ⟨0, _, _, rfl, Nat.zero_le _, rfl, H11.out.2, H0.out⟩
        case round =>
          clear g5 g5' H11 H0
          rename World => wr
          obtain ⟨k, af, cf, rfl, hk, rfl, hsi, hrow⟩ := hrel
          by_cases hlt0 : k < nc
          · have hlt : k < s.choices.length := by have := HNC.out; omega
            obtain ⟨gi, ci', ei, hci⟩ := own_cell HCHO.out (by omega)
            injection ei with ei1 ei2 ei3
            subst ei1 ei3
            clear ei2
            have x1 := cell_kept (hci k (.int .i64 (s.choices[k])) (by simp [ints, List.getElem?_eq_getElem hlt])) hsi.below
            have hin := HO.out.ch _ (List.getElem_mem hlt)
            clear hci
            have HX := Lib.hid hsi
            have HR := Lib.hid hrow
            have HLT := Lib.hid hlt
            clear hsi hrow
            generalize hcn : s.choices[k] = cn at *
            have HCN := Lib.hid hcn
            clear hcn hlt
            go_wp2_with (first | (go_at_call 15; (with_reducible refine (itoa_any cn hin _ (HV.out.2.below HX.out.below)).mono ?_); rintro e w' ⟨rfl, hb5⟩; have hrow := own_below HR.out hb5; have hsi := HX.out.up hb5) | (at_builtin; refine wp_app2 rfl _ _ 47 rfl w.heap.size (.string ⟨#[]⟩) 1 16 Tryz.underlying47 info9 rfl (by decide) _ _ _ rfl hrow rfl rfl ?i2 ?i3 ?i5 ?i4 ?_))
            case i2 => simp [Value.oneCell']
            case i3 => omega
            case i5 => omega
            case i4 => exact hsi.below.size
            intro v' w2 hro hb6 hf6
            obtain ⟨a2, c2, rfl⟩ := own_shape hro
            have HY := Lib.hid (And.intro (hsi.fr9 hb6 hf6) hro)
            clear hsi hrow hb5 hro x1
            go_wp2_with fail
            go_roundw
            case rel =>
              refine ⟨k + 1, a2, c2, by go_num, hlt0, rfl, HY.out.1, ?_⟩
              have e := HY.out.2
              have e3 : s.choices.take (k + 1) = s.choices.take k ++ [cn] := by rw [List.take_succ_eq_append_getElem HLT.out]; exact congrArg (fun z => s.choices.take k ++ [z]) HCN.out
              rw [e3, List.map_append, ← List.cons_append, strs_app]
              first | exact e | (rw [← List.map_take] at e; exact e)
            case measure => simp [intOf]; omega
          · have hke : k = nc := by omega
            subst hke
            rw [List.take_of_length_le (Nat.le_of_eq HNC.out)] at hrow
            have HX := Lib.hid (And.intro hsi hrow)
            clear hsi hrow
            go_wp2_with fail
            refine (line_out HX.out.1 HX.out.2 (by omega) (by omega) HL).mono ?_
            rintro e w12 ⟨rfl, h12, _⟩
            have H12 := Lib.hid h12
            clear h12
            go_wp2_with fail
            go_meet
            case rel => exact ⟨_, H12.out⟩
    case rest =>
      clear HS11 g5
      rename World => w12
      obtain ⟨pre, h12⟩ := hcut
      have g4 := h12.cell 4 (u := .slice a4 na c4) rfl
      have HS12 := Lib.hid h12
      clear h12
      go_wp2_with fail
      go_loopw [72] (fun i wr => ∃ (k : Nat) (pre : List (List B)), i = .int .i64 k ∧ k ≤ na ∧ SI w s (.slice a4 na c4) (.slice a5 nc c5) pre (linesC (s.acts.drop k)) wr) (fun i _ => na - (intOf i).toNat)
      case atStart => exact ⟨0, pre, rfl, Nat.zero_le _, by simpa using HS12.out⟩
      case round =>
        clear HS12 g4
        rename World => wr
        obtain ⟨k, pre, rfl, hk, hsi⟩ := hrel
        by_cases hlt0 : k < na
        · have hlt : k < s.acts.length := by have := HNA.out; omega
          obtain ⟨v, hv1, cs, hown, hacts⟩ := HS.out.all.at k hlt
          obtain ⟨av, cv, rfl⟩ := own_shape hown
          obtain ⟨g4, c4', e4, hc4⟩ := own_cell HCLI.out (by omega)
          injection e4 with e5 e6 e7
          subst e5 e7
          clear e6
          have x4 := cell_kept (hc4 k _ hv1) hsi.below
          clear hc4
          rw [linesC_drop _ k hlt] at hsi
          have hml := HO.out.ml _ (List.getElem_mem hlt)
          have hkd := HO.out.kd _ (List.getElem_mem hlt)
          have hac := HO.out.ac _ (List.getElem_mem hlt)
          generalize s.acts[k] = l at *
          clear hlt
          have HI2 := Lib.hid hsi
          have HA := Lib.hid (And.intro hown (And.intro hacts (And.intro hkd hac)))
          clear hsi hown hacts hkd hac hv1
          go_wp2_with fail
          refine (line_one HI2.out HL).mono ?_
          rintro e w13 ⟨rfl, h13⟩
          have H13 := Lib.hid h13
          clear h13 x4
          go_wp2_with fail
          go_loopw [81] (fun i wx => ∃ (j : Nat) (pre2 : List (List B)), i = .int .i64 j ∧ j ≤ l.length ∧ SI w s (.slice (some ⟨g4, 0, none⟩) na c4) (.slice a5 nc c5) pre2 (actLines (l.drop j) ++ linesC (s.acts.drop (k + 1))) wx) (fun i _ => l.length - (intOf i).toNat)
          case atStart => exact ⟨0, _, rfl, Nat.zero_le _, by simpa using H13.out⟩
          case round =>
            clear H13 HI2
            rename World => wx
            obtain ⟨j, pre2, rfl, hj, hsi⟩ := hrel
            by_cases hlt2 : j < l.length
            · obtain ⟨va, hin, hcell⟩ := HA.out.2.1.at j hlt2
              obtain ⟨aa, ca, rfl⟩ := own_shape hin
              obtain ⟨gv, cv', ev, hcv⟩ : ∃ g c, Value.slice av l.length cv = .slice (some ⟨g, 0, none⟩) l.length c ∧ ∀ j u, cs[j]? = some u → w.cell? ⟨g, j, none⟩ = some u := by
                rcases HA.out.1.2 with ⟨_, h1⟩ | ⟨g, cap, cur, e, _⟩
                · omega
                · refine ⟨g, cap, e, fun i u hi => ?_⟩
                  have := HA.out.1.cells (g := g) (by rw [e]; rfl) i u hi
                  have e2 : (⟨g, 0, none⟩ : Addr).add i = ⟨g, i, none⟩ := by unfold Addr.add; split <;> simp_all
                  rw [← e2]; exact this
              injection ev with ev1 ev2 ev3
              subst ev1 ev3
              clear ev2
              have z0 := cell_kept (hcv _ _ (hcell 0 _ rfl)) hsi.below
              have z1 := cell_kept (hcv _ _ (hcell 1 _ rfl)) hsi.below
              have z2 := cell_kept (hcv _ _ (hcell 2 _ rfl)) hsi.below
              have z3 := cell_kept (hcv _ _ (hcell 3 _ rfl)) hsi.below
              have z4 := cell_kept (hcv _ _ (hcell 4 _ rfl)) hsi.below
              have z5 := cell_kept (hcv _ _ (hcell 5 _ rfl)) hsi.below
              have z6 := cell_kept (hcv _ _ (hcell 6 _ rfl)) hsi.below
              have z7 := cell_kept (hcv _ _ (hcell 7 _ rfl)) hsi.below
              have z8 := cell_kept (hcv _ _ (hcell 8 _ rfl)) hsi.below
              have z9 := cell_kept (hcv _ _ (hcell 9 _ rfl)) hsi.below
              have z10 := cell_kept (hcv _ _ (hcell 10 _ rfl)) hsi.below
              simp only [Nat.add_zero] at z0
              have hk64 := HA.out.2.2.1 _ (List.getElem_mem hlt2)
              clear hcell hcv
              have HX := Lib.hid hsi
              have HN := Lib.hid hin
              clear hsi hin
              cases hsh : showable l[j] with
              | false =>
                have t0 : (decide ((0 : Int) < l[j].kind) && decide (l[j].kind < 12)) = false := hsh
                have HH := Lib.hid (actLines_no l j hlt2 hsh)
                clear hsh
                by_cases q1 : 0 < l[j].kind
                · have q2 : ¬ l[j].kind < 12 := by intro h; simp [q1, h] at t0
                  clear t0
                  go_wp2_with fail
                  go_roundw
                  case rel => exact ⟨j + 1, pre2, by go_num, hlt2, by rw [← HH.out]; exact HX.out.up ((Below.refl _ _).alloc (Nat.le_refl _) _)⟩
                  case measure => simp [intOf]; omega
                · clear t0
                  go_wp2_with fail
                  go_roundw
                  case rel => exact ⟨j + 1, pre2, by go_num, hlt2, by rw [← HH.out]; exact HX.out.up ((Below.refl _ _).alloc (Nat.le_refl _) _)⟩
                  case measure => simp [intOf]; omega
              | true =>
                have hOK := HA.out.2.2.2 _ (List.getElem_mem hlt2) hsh
                have q1 : 0 < l[j].kind := by have := hOK.kind.1; omega
                have q2 : l[j].kind < 12 := hOK.kind.2
                have hsi := HX.out
                rw [actLines_yes l j hlt2 hsh] at hsi
                obtain ⟨W, hW⟩ : ∃ W, W = wx.alloc (.cells (actCells l[j] (.slice aa l[j].job.inputs.length ca)).toArray 51) := ⟨_, rfl⟩
                have hbW : Below wx.heap.size wx W := by rw [hW]; exact (Below.refl _ _).alloc (Nat.le_refl _) _
                have hs2 := hsi.up hbW
                have HOK := Lib.hid (And.intro hOK (And.intro hs2 hW))
                clear hsi hs2 hsh hOK hW hbW HX
                have hWl : (actCells l[j] (.slice aa l[j].job.inputs.length ca)).toArray = #[.int .i64 l[j].kind, .string ⟨l[j].path.toArray⟩, .string ⟨l[j].«to».toArray⟩, .string ⟨l[j].data.toArray⟩, .int .i64 l[j].quota, .string ⟨l[j].job.program.toArray⟩, .string ⟨l[j].job.output.toArray⟩, .slice aa l[j].job.inputs.length ca, .int .i64 l[j].job.parts, .int .i64 l[j].job.split, .int .i64 l[j].job.spill] := rfl
                rw [hWl] at HOK
                clear hWl
                go_wp2_with fail
                obtain ⟨hOK, hs2, hW⟩ := HOK.out
                rw [← hW]
                have hbw : Below w.heap.size w W := hs2.below
                refine (fields_any l[j] (.slice aa l[j].job.inputs.length ca) B0 W hOK (HV.out.1.below h0 hbw) (HV.out.2.below hbw) (own_below HN.out hbw) (Nat.lt_of_lt_of_le h0 hbw.size)).mono ?_
                rintro e w15 ⟨ao, co, rfl, hb15, hro15⟩
                have hs15 := hs2.up hb15
                have hl15 := actTexts_len l[j] hOK.inputs
                have H15 := Lib.hid (And.intro hs15 (And.intro hro15 hl15))
                clear hs15 hro15 hl15 hb15 hOK hs2 hW hbw
                generalize hT : actTexts l[j] = T at *
                go_wp2_with fail
                refine (line_out H15.out.1 H15.out.2.1 H15.out.2.2.1 (by have := H15.out.2.2.2; omega) HL).mono ?_
                rintro e w16 ⟨rfl, h16, _⟩
                have H16 := Lib.hid h16
                clear h16
                go_wp2_with fail
                go_roundw
                case rel => exact ⟨j + 1, _, by go_num, hlt2, H16.out⟩
                case measure => simp [intOf]; omega
            · have hje : j = l.length := by omega
              subst hje
              have HX := Lib.hid hsi
              clear hsi
              go_wp2_with fail
              go_roundw
              case rel => exact ⟨k + 1, pre2, by go_num, hlt0, by have := HX.out; rw [List.drop_eq_nil_of_le (Nat.le_refl _)] at this; simpa [actLines] using this⟩
              case measure => simp [intOf]; omega
        · have hke : k = na := by omega
          subst hke
          rw [List.drop_eq_nil_of_le (Nat.le_of_eq HNA.out)] at hsi
          have hout : outOf pre = showS s := by rw [showS_out, hsi.all]; simp [linesC]
          have hbld := hsi.bld
          rw [hout] at hbld
          have HB := Lib.hid (And.intro hbld hsi.below)
          clear hsi hout hbld
          go_wp2_with fail
          refine (Tryz.Builder_String_any_k _ _ _ _ HB.out.1 HB.out.2.size).mono ?_
          rintro e w14 ⟨rfl, -, hb14, -⟩
          have HB2 := Lib.hid (HB.out.2.trans hb14)
          clear hb14
          go_wp2_with fail
          go_ret
          exact ⟨rfl, HB2.out⟩
end Go.Proofs.YtmkmkccdlopogaaGreatDoor.Con
