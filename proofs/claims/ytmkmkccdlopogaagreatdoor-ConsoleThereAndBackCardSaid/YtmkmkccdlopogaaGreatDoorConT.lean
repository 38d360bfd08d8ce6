/- The walk of (*reader).line: client, choose. -/
import Derived.Test.YtmkmkccdlopogaaGreatDoorProg
import Derived.Test.YtmkmkccdlopogaaGreatDoorConS
set_option linter.unusedVariables false
set_option linter.unusedSimpArgs false
namespace Go.Proofs.YtmkmkccdlopogaaGreatDoor.Con
open Go.RowKit

theorem below_set {B0 r : Nat} {w w' : World} (h : Below B0 w w') (hr : B0 ≤ r) (o : Nat) (v : Value) : Below B0 w (w'.setCell ⟨r, o, none⟩ v) := h.setCell hr v
theorem LinePost.okd {B0 r : Nat} {w w' : World} {o : Except Int Script} {s1 : Script} {e : Ending} (h : LinePost B0 w r o e w') (ho : o = .ok s1) : Below B0 w w' ∧ Fr TL w w' ∧ e = .returned .nilIface ∧ ReaderAt B0 w' r s1 := by
  subst ho; exact h
theorem LinePost.bad {B0 r : Nat} {w w' : World} {o : Except Int Script} {c : Int} {e : Ending} (h : LinePost B0 w r o e w') (ho : o = .error c) : Below B0 w w' ∧ Fr TL w w' ∧ ∃ b, e = .returned (.iface 82 (.pointer (some ⟨b, 0, none⟩))) ∧ B0 ≤ b ∧ w'.heap[b]? = some (.cells #[.int .i64 c, .int .i64 0] 40 (0, 0)) := by
  subst ho; exact h
theorem LinePost.from {B0 r : Nat} {w W w' : World} {o : Except Int Script} {e : Ending} (h : LinePost B0 W r o e w') (hb : Below B0 w W) (hf : Fr TL w W) : LinePost B0 w r o e w' := ⟨hb.trans h.1, hf.trans h.2.1, h.2.2⟩
theorem ReaderAt.drewN {B0 : Nat} {w : World} {r : Nat} {s : Script} (h : ReaderAt B0 w r s) (n : Nat) : ReaderAt B0 (w.drewN n) r s := h.below (below_drewN _ _ _)
/-! ### client -/
theorem InitC.mono {w : World} {B0 B1 B2 : Nat} (hB : B1 ≤ B2) : ∀ {vs : List Value} {ls : List (List Act)}, InitC w B0 B1 vs ls → InitC w B0 B2 vs ls
  | [], [], _ => trivial
  | _ :: _, _ :: _, ⟨k1, k3, k4⟩ => ⟨k1, fun g h => Nat.lt_of_lt_of_le (k3 g h) hB, InitC.mono hB k4⟩
theorem InitC.snoc {w : World} {B0 B1 : Nat} {v : Value} {l : List Act} (h1 : ClientAt w B0 v l) (h2 : ∀ g, v.ownBlock = some g → g < B1) : ∀ {vs : List Value} {ls : List (List Act)}, InitC w B0 B1 vs ls → InitC w B0 B1 (vs ++ [v]) (ls ++ [l])
  | [], [], _ => ⟨h1, h2, trivial⟩
  | _ :: _, _ :: _, ⟨k1, k3, k4⟩ => ⟨k1, k3, InitC.snoc h1 h2 k4⟩
theorem CliAt.init {w : World} {B0 B1 B2 : Nat} {vs : List Value} {ls : List (List Act)} (h : CliAt w B0 B1 vs ls) (h1 : B1 ≤ w.heap.size) (h2 : w.heap.size ≤ B2) : InitC w B0 B2 vs ls := by
  rcases h with ⟨rfl, rfl⟩ | ⟨vi, vl, li, ll, rfl, rfl, k1, ⟨cs, k2, k3⟩, k4⟩
  · trivial
  · exact (k1.mono (Nat.le_trans h1 h2)).snoc ⟨cs, own_mono k2 k4, k3⟩ (fun g hg => Nat.lt_of_lt_of_le (k2.lt g hg).2 h2)
theorem ReaderIs.client {B0 B1 : Nat} {w w' : World} {r : Nat} {s : Script} {va vc va' : Value} {vs : List Value} (h : ReaderIs B0 w r s va vc vs B1)
    (ho : w'.ownsRow B0 46 1 va' (s.acts.length + 1) (vs ++ [.slice none 0 0])) (hf : Fr [46] w w') (hs : w.heap.size ≤ w'.heap.size) :
    ReaderIs B0 (w'.setCell ⟨r, 4, none⟩ va') r { s with acts := s.acts ++ [[]] } va' vc (vs ++ [.slice none 0 0]) w'.heap.size := by
  have hr : w'.heap[r]? = some (.cells (rcells s va vc) 75 (0, 0)) := hf r _ h.obj (fun c t fz e => by injection e with _ e1; subst e1; decide)
  have f2 : Fr [75] w' (w'.setCell ⟨r, 4, none⟩ va') := (Fr.refl _ _).setCell _ _ hr (by decide)
  have f3 : Fr [46, 75] w (w'.setCell ⟨r, 4, none⟩ va') := (hf.mono (by simp)).trans (f2.mono (by simp))
  refine ⟨h.ge, heap_set hr 4 va', own_fr h.cho f3 (by decide), by simpa using own_fr ho f2 (by decide), .inr ⟨vs, .slice none 0 0, s.acts, [], rfl, rfl, ?_, ⟨[], World.ownsRow_nil _ _ _ _, rfl⟩, Nat.le_trans h.ge (Nat.le_of_lt (Nat.lt_of_lt_of_le h.lt hs))⟩, by rw [size_set]; exact Nat.le_refl _⟩
  have h46 := h.all.init h.le hs
  exact h46.imp (fun _ _ _ k => own_fr k f3 (by decide)) (fun _ _ _ _ k => own_fr k f3 (by decide))

theorem info46 : (Tryz.prog.info? 46).map (fun i => (i.zero, i.size, i.bytes)) = some (some (.slice none 0 0), 1, 24) := by kernel_rfl

set_option maxRecDepth 100000 in
set_option maxHeartbeats 1000000 in
theorem line_client (B0 r : Nat) (s : Script) (fv : Value) (w : World) (hf : FieldsAt w fv [⟨wClient, false⟩]) (hr : ReaderAt B0 w r s) (hB : B0 ≤ w.heap.size) (hal : s.acts.length ≤ 1048577) :
    Calls Tryz.prog 26 #[.pointer (some ⟨r, 0, none⟩), fv] w (LinePost B0 w r (lineS s ⟨wClient, false⟩ [])) := by
  rw [lineS_cli, if_pos rfl]
  obtain ⟨va, vc, vs, B1, hr⟩ := hr
  rcases s with ⟨n1, n2, n3, n4, ac, ch, n6, fl⟩
  obtain ⟨a4, c4, rfl⟩ := own_shape hr.cli
  have q4 := hr.cell 4 (u := .slice a4 ac.length c4) rfl
  have f4 := hr.free 4
  have q7 := hr.cell 7 (u := .bool fl) rfl
  have f7 := hr.free 7
  simp only at hal
  obtain ⟨g, o, c, rfl, hc, k1, k2⟩ := head_cells hf
  simp only [wClient] at k1
  have hc0 : 1 ≤ c := by simpa using hc
  clear hf
  have HR : ∀ n, ReaderIs B0 ((w.drewN n).setCell ⟨r, 7, none⟩ (.bool fl)) r ⟨n1, n2, n3, n4, ac, ch, n6, fl⟩ (.slice a4 ac.length c4) vc vs B1 := fun n => (hr.drewN n).set 7 (.bool fl) rfl rfl rfl
  have HC := Lib.hid HR
  have hge := hr.ge
  have HO := Lib.hid hr
  clear hr HR
  cases fl
  all_goals (
    by_cases hc1 : c = 1
    all_goals (
      try subst hc1
      go_enter Tryz.func26, Tryz.ntmps26
      go_wp2_with fail
      go_quiet (fail)
      go_wp2_with (first | (go_at_call 37; (with_reducible refine (setting_at r _ none (by decide) _).mono ?_); rintro e w2 ⟨rfl, rfl⟩) | (at_builtin; refine wp_app2 rfl _ _ 26 rfl B0 (.slice none 0 0) 1 24 Tryz.underlying26 info46 rfl (by decide) _ _ _ rfl (HC.out _).cli rfl (by rw [size_set]; rfl) (by simp [Value.oneCell']) (by show ac.length + 1 ≤ _; omega) (by show (ac.length + 1) * 24 ≤ _; omega) (by rw [size_set]; exact hB) ?_))
      intro v' w3 ho2 hb3 hf3
      have hr3 := (HC.out _).client ho2 hf3 hb3.size
      have hro : w3.heap[r]? = some _ := hf3 r _ (HC.out _).obj (fun c t fz e => by injection e with _ e1; subst e1; decide)
      obtain ⟨va', vn', rfl⟩ := own_shape ho2
      have hc6 : w3.cell? ⟨r, 4, none⟩ = some (.slice a4 ac.length c4) := by simp only [World.cell?, hro]; rfl
      have hf6 : w3.frozen? ⟨r, 4, none⟩ = false := by simp [World.frozen?, hro]
      have hb4 := below_set ((below_set (below_drewN B0 w _) hge 7 _).trans hb3) hge 4 (.slice va' (ac.length + 1) vn')
      have hfx : Fr TL w (w3.setCell ⟨r, 4, none⟩ (.slice va' (ac.length + 1) vn')) := ((((fr_drewN w _).setCell ⟨r, 7, none⟩ _ (HO.out.drewN _).obj (by decide)).trans (hf3.mono (by simp))).setCell ⟨r, 4, none⟩ _ hro (by decide))
      have HX := Lib.hid (And.intro hb4 (And.intro hfx hr3))
      clear hr3 hro hb4 hfx
      go_wp2_with fail
      go_ret
      exact ⟨HX.out.1, HX.out.2.1, rfl, _, _, _, _, HX.out.2.2⟩))

/-! ### choose -/
theorem lineS_cho {s : Script} {fs : List Field} : lineS s ⟨wChoose, false⟩ fs = chooseS s fs := by
  unfold lineS
  rw [if_neg (by simp), if_neg (by rw [setOff_none (by decide) 0]; simp), if_neg (by simp [wFlips, wChoose]), if_neg (by simp [wClient, wChoose]), if_pos rfl]
  unfold chooseS
  cases fs with
  | nil => rfl
  | cons f fs =>
    cases nums (f :: fs) <;> rfl
theorem rest_nil (w : World) (a : Option Addr) (c : Nat) : FieldsAt w (.slice a 0 c) [] := ⟨a, c, rfl, Nat.zero_le _, fun h => absurd rfl h⟩

set_option maxRecDepth 100000 in
set_option maxHeartbeats 2000000 in
theorem line_choose (B0 r : Nat) (s : Script) (fv : Value) (fs : List Field) (w : World) (hf : FieldsAt w fv (⟨wChoose, false⟩ :: fs)) (hn : fs.length ≤ 1048576) (hB : B0 ≤ w.heap.size) (hr : ReaderAt B0 w r s)
    (hc : s.choices.length + fs.length ≤ 4398046511104) (ht : ∀ f ∈ fs, f.text.length ≤ 1048576) :
    Calls Tryz.prog 26 #[.pointer (some ⟨r, 0, none⟩), fv] w (LinePost B0 w r (lineS s ⟨wChoose, false⟩ fs)) := by
  rw [lineS_cho]
  obtain ⟨g, o, c, rfl, hc1, k1, k2⟩ := head_cells hf
  simp only [wChoose] at k1
  have hcont : ∀ v n, FieldsAt (w.drewN n) v fs → Calls Tryz.prog 39 #[.pointer (some ⟨r, 0, none⟩), v] (w.drewN n) fun e w' => LinePost B0 w r (chooseS s fs) e w' :=
    fun v n h => (choose_any B0 r s v fs (w.drewN n) (hr.drewN n) h hn hc ht hB).mono fun e w' h => h.from (below_drewN _ _ _) (fr_drewN _ _)
  clear hr ht
  have hf0 := hf
  clear hf
  cases hch : chooseS s fs with
  | ok s1 =>
    have HC := Lib.hid (And.intro hch hcont)
    clear hch hcont
    rcases rest_cases hf0 with ⟨rfl, rfl⟩ | ⟨hc1, hfr⟩
    · go_enter Tryz.func26, Tryz.ntmps26
      go_wp2_with fail
      go_quiet (fail)
      go_wp2_with (first | (go_at_call 37; (with_reducible refine (setting_at r _ none (by decide) _).mono ?_); rintro e w2 ⟨rfl, rfl⟩) | (go_at_call 39; (with_reducible refine (HC.out.2 _ _ (rest_nil _ _ _)).mono ?_); intro e w2 hp; obtain ⟨hb, hfx, rfl, hrd⟩ := hp.okd HC.out.1))
      go_ret
      exact ⟨hb, hfx, rfl, hrd⟩
    · have HF := Lib.hid hfr
      clear hfr hf0
      go_enter Tryz.func26, Tryz.ntmps26
      go_wp2_with fail
      go_quiet (fail)
      go_wp2_with (first | (go_at_call 37; (with_reducible refine (setting_at r _ none (by decide) _).mono ?_); rintro e w2 ⟨rfl, rfl⟩) | (go_at_call 39; (with_reducible refine (HC.out.2 _ _ (HF.out _ _ rfl)).mono ?_); intro e w2 hp; obtain ⟨hb, hfx, rfl, hrd⟩ := hp.okd HC.out.1))
      go_ret
      exact ⟨hb, hfx, rfl, hrd⟩
  | error ec =>
    have HC := Lib.hid (And.intro hch hcont)
    clear hch hcont
    rcases rest_cases hf0 with ⟨rfl, rfl⟩ | ⟨hc1, hfr⟩
    · go_enter Tryz.func26, Tryz.ntmps26
      go_wp2_with fail
      go_quiet (fail)
      go_wp2_with (first | (go_at_call 37; (with_reducible refine (setting_at r _ none (by decide) _).mono ?_); rintro e w2 ⟨rfl, rfl⟩) | (go_at_call 39; (with_reducible refine (HC.out.2 _ _ (rest_nil _ _ _)).mono ?_); intro e w2 hp; obtain ⟨hb, hfx, bb, rfl, hbb, hob⟩ := hp.bad HC.out.1))
      go_ret
      exact ⟨hb, hfx, bb, rfl, hbb, hob⟩
    · have HF := Lib.hid hfr
      clear hfr hf0
      go_enter Tryz.func26, Tryz.ntmps26
      go_wp2_with fail
      go_quiet (fail)
      go_wp2_with (first | (go_at_call 37; (with_reducible refine (setting_at r _ none (by decide) _).mono ?_); rintro e w2 ⟨rfl, rfl⟩) | (go_at_call 39; (with_reducible refine (HC.out.2 _ _ (HF.out _ _ rfl)).mono ?_); intro e w2 hp; obtain ⟨hb, hfx, bb, rfl, hbb, hob⟩ := hp.bad HC.out.1))
      go_ret
      exact ⟨hb, hfx, bb, rfl, hbb, hob⟩
end Go.Proofs.YtmkmkccdlopogaaGreatDoor.Con
