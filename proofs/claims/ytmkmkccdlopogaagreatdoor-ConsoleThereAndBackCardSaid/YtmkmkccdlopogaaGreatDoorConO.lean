/- The walk of console.submit. -/
import Derived.Test.YtmkmkccdlopogaaGreatDoorProg
import Derived.Test.YtmkmkccdlopogaaGreatDoorConN
import Derived.BigRegion
import Derived.Deep.AppendLies
import Derived.Deep.RegionLaw
set_option linter.unusedVariables false
set_option linter.unusedSimpArgs false
namespace Go.Proofs.YtmkmkccdlopogaaGreatDoor.Con
open Go.RowKit

set_option maxRecDepth 100000 in
set_option maxHeartbeats 1000000 in
theorem submit_few (bA : Nat) (fv : Value) (fs : List Field) (w : World) (hf : FieldsAt w fv fs) (h : fs.length < 6) :
    Calls Tryz.prog 60 #[.pointer (some ⟨bA, 0, none⟩), fv] w fun e w' => e = .returned (.bool false) ∧ w' = w := by
  obtain ⟨a, c, rfl, hcap, -⟩ := hf
  go_enter Tryz.func60, Tryz.ntmps60
  go_wp2_with fail
  go_ret
  exact ⟨rfl, rfl⟩

def subCells (fs : List Field) (h : 6 ≤ fs.length) (v : Value) (x y z : Int) : Array Value := #[.int .i64 10, .string ⟨fs[0].text.toArray⟩, .string ⟨#[]⟩, .string ⟨#[]⟩, .int .i64 0, .string ⟨fs[5].text.toArray⟩, .string ⟨fs[1].text.toArray⟩, v, .int .i64 x, .int .i64 y, .int .i64 z]

/-- the act under way -/
structure SubAt (w : World) (bA : Nat) (cs : Array Value) (W : World) : Prop where
  obj : W.heap[bA]? = some (.cells cs 51 (0, 0))
  gr : w.grownBy W (some bA)
theorem SubAt.cell {w W : World} {bA : Nat} {cs : Array Value} (h : SubAt w bA cs W) (j : Nat) {u : Value} (hu : cs[j]? = some u) : W.cell? ⟨bA, j, none⟩ = some u := by simp only [World.cell?, h.obj]; exact hu
theorem SubAt.free {w W : World} {bA : Nat} {cs : Array Value} (h : SubAt w bA cs W) (j : Nat) : W.frozen? ⟨bA, j, none⟩ = false := by simp [World.frozen?, h.obj]
theorem grown_set (w : World) (b o : Nat) (v : Value) : w.grownBy (w.setCell ⟨b, o, none⟩ v) (some b) :=
  ⟨rfl, rfl, rfl, by rw [size_set]; exact Nat.le_refl _, fun k _ hk => Below.heap_setCell _ _ _ _ (fun e => hk (by rw [e]))⟩
theorem SubAt.set {w W : World} {bA : Nat} {cs : Array Value} (h : SubAt w bA cs W) (o : Nat) (v : Value) : SubAt w bA (cs.set! o v) (W.setCell ⟨bA, o, none⟩ v) :=
  ⟨heap_set h.obj o v, h.gr.trans (grown_set _ _ _ _)⟩
theorem SubAt.drew {w W : World} {bA : Nat} {cs : Array Value} (h : SubAt w bA cs W) : SubAt w bA cs W.drew := ⟨h.obj, ⟨h.gr.os, h.gr.tape, h.gr.output, h.gr.size, h.gr.block⟩⟩
theorem SubAt.below {w W W' : World} {bA : Nat} {cs : Array Value} (h : SubAt w bA cs W) (hb : Below W.heap.size W W') : SubAt w bA cs W' :=
  ⟨by rw [hb.block _ (Array.getElem?_eq_some_iff.1 h.obj).1]; exact h.obj, h.gr.trans ⟨hb.os, hb.tape, hb.output, hb.size, fun k hk _ => hb.block k hk⟩⟩
theorem FieldsAt.grown {w W : World} {bA : Nat} {cs : Array Value} {fz : Nat × Nat} (hA : w.heap[bA]? = some (.cells cs 51 fz)) (hg : w.grownBy W (some bA)) {v : Value} {fs : List Field} (h : FieldsAt w v fs) : FieldsAt W v fs := by
  obtain ⟨a, c, e, hc, k⟩ := h
  refine ⟨a, c, e, hc, fun hn => ?_⟩
  obtain ⟨g, o, cur, fz', ea, eg, ec⟩ := k hn
  refine ⟨g, o, cur, fz', ea, ?_, ec⟩
  rw [hg.block g (Array.getElem?_eq_some_iff.1 eg).1 (fun e => ?_)]
  · exact eg
  · injection e with e
    subst e
    rw [hA] at eg
    injection eg with eg
    injection eg with _ eg
    cases eg

/-- with the three places that the numbers go to -/
structure Sub2 (w : World) (bA : Nat) (cs : Array Value) (p : Nat) (W : World) : Prop where
  sub : SubAt w bA cs W
  ptr : W.heap[p]? = some (.cells #[.pointer (some ⟨bA, 8, none⟩), .pointer (some ⟨bA, 9, none⟩), .pointer (some ⟨bA, 10, none⟩)] 97 (0, 0))
theorem Sub2.get {w W : World} {bA p : Nat} {cs : Array Value} (h : Sub2 w bA cs p W) (j : Nat) {u : Value} (hu : (#[.pointer (some ⟨bA, 8, none⟩), .pointer (some ⟨bA, 9, none⟩), .pointer (some ⟨bA, 10, none⟩)] : Array Value)[j]? = some u) : W.cell? ⟨p, j, none⟩ = some u := by simp only [World.cell?, h.ptr]; exact hu
theorem Sub2.below {w W W' : World} {bA p : Nat} {cs : Array Value} (h : Sub2 w bA cs p W) (hb : Below W.heap.size W W') : Sub2 w bA cs p W' :=
  ⟨h.sub.below hb, by rw [hb.block _ (Array.getElem?_eq_some_iff.1 h.ptr).1]; exact h.ptr⟩
theorem Sub2.set {w W : World} {bA p : Nat} {cs : Array Value} (h : Sub2 w bA cs p W) (o : Nat) (v : Value) : Sub2 w bA (cs.set! o v) p (W.setCell ⟨bA, o, none⟩ v) :=
  ⟨h.sub.set o v, by
    rw [Below.heap_setCell _ _ _ _ (fun e => ?_)]
    · exact h.ptr
    · subst e; have := h.ptr; rw [h.sub.obj] at this; injection this with this; injection this with _ this; cases this⟩

theorem info9 : (Tryz.prog.info? 9).map (fun i => (i.zero, i.size, i.bytes)) = some (some (.string ⟨#[]⟩), 1, 16) := by kernel_rfl
theorem FieldsAt.drop {W : World} {g o n c : Nat} {fs : List Field} (h : FieldsAt W (.slice (some ⟨g, o, none⟩) n c) fs) (k o' : Nat) (hk : k ≤ fs.length) (ho : k < fs.length → o' = o + k * 2) : FieldsAt W (.slice (some ⟨g, o', none⟩) (fs.length - k) (c - k)) (fs.drop k) := by
  obtain ⟨a, c', e, hc, q⟩ := h
  injection e with e1 e2 e3
  subst e1 e2 e3
  refine ⟨_, _, by rw [List.length_drop], by rw [List.length_drop]; omega, fun hn => ?_⟩
  have hlt : k < fs.length := by
    rcases Nat.lt_or_ge k fs.length with h | h
    · exact h
    · exact absurd (List.drop_eq_nil_of_le h) hn
  obtain ⟨g', o2, cur, fz, ea, eg, ec⟩ := q (by intro e; subst e; simp at hlt)
  injection ea with ea
  injection ea with e1 e2
  subst e1 e2
  refine ⟨g, o', cur, fz, rfl, eg, fun j u hj => ?_⟩
  rw [ho hlt, Nat.add_assoc]
  refine ec _ _ ?_
  rw [← hj]
  have : fcells fs = fcells (fs.take k) ++ fcells (fs.drop k) := by rw [fcells, fcells, fcells, ← List.flatMap_append, List.take_append_drop]
  have hl : (fcells (fs.take k)).length = k * 2 := by
    have : ∀ l : List Field, (fcells l).length = l.length * 2 := by
      intro l; induction l with
      | nil => rfl
      | cons a l ih => simp only [fcells, List.flatMap_cons, List.length_append, List.length_cons, List.length_nil] at ih ⊢; omega
    rw [this, List.length_take, Nat.min_eq_left hk]
  rw [this, List.getElem?_append_right (by omega), hl]
  congr 1; omega
/-- what submit leaves -/
def SubmitPost (w : World) (bA : Nat) (o : Option Act) (e : Ending) (w' : World) : Prop :=
  w.grownBy w' (some bA) ∧ match o with
    | some a => e = .returned (.bool true) ∧ ∃ v, w'.heap[bA]? = some (.cells (actCells a v).toArray 51 (0, 0)) ∧ w'.ownsRow w.heap.size 9 1 v a.job.inputs.length (strs a.job.inputs)
    | none => e = .returned (.bool false)
theorem submitOf_eq (fs : List Field) (h : 6 ≤ fs.length) : submitOf fs = match number fs[2], number fs[3], number fs[4] with
    | some x, some y, some z => some { Act.zero 10 with path := fs[0].text, job := ⟨fs[5].text, fs[1].text, (fs.drop 6).map (·.text), x, y, z⟩ }
    | _, _, _ => none := by
  match fs, h with
  | a :: b :: c :: d :: e :: f :: l, _ => rfl
theorem submit_2 {fs : List Field} (h : 6 ≤ fs.length) (k : number fs[2] = none) : submitOf fs = none := by rw [submitOf_eq fs h, k]
theorem submit_3 {fs : List Field} (h : 6 ≤ fs.length) (k : number fs[3] = none) : submitOf fs = none := by rw [submitOf_eq fs h, k]; split <;> simp_all
theorem submit_4 {fs : List Field} (h : 6 ≤ fs.length) (k : number fs[4] = none) : submitOf fs = none := by rw [submitOf_eq fs h, k]; split <;> simp_all
theorem submit_bad {w w' : World} {bA : Nat} {o : Option Act} (hg : w.grownBy w' (some bA)) (h : o = none) : SubmitPost w bA o (.returned (.bool false)) w' := by subst h; exact ⟨hg, rfl⟩

theorem SubAt.app {w W w1 : World} {bA : Nat} {cs : Array Value} (S : SubAt w bA cs W) (hbA : bA < w.heap.size) (o : Obj) {row : Option Nat} (hg : ((W.alloc o).drew).grownBy w1 row) (hrow : ∀ g, row = some g → w.heap.size ≤ g) : SubAt w bA cs w1 := by
  have h1 : ∀ k, k < W.heap.size → some k ≠ row → w1.heap[k]? = W.heap[k]? := fun k hk hr => by
    rw [hg.block k (by show k < (W.alloc o).heap.size; simp; omega) hr]
    exact heap_alloc_old W o hk
  have h2 : ∀ k, k < w.heap.size → some k ≠ row := fun k hk e => by have := hrow k e.symm; omega
  refine ⟨by rw [h1 _ (Array.getElem?_eq_some_iff.1 S.obj).1 (h2 _ hbA)]; exact S.obj, hg.os.trans S.gr.os, hg.tape.trans S.gr.tape, hg.output.trans S.gr.output, Nat.le_trans S.gr.size (Nat.le_trans (by show W.heap.size ≤ (W.alloc o).heap.size; simp) hg.size), fun k hk hne => ?_⟩
  rw [h1 k (Nat.lt_of_lt_of_le hk S.gr.size) (h2 k hk)]
  exact S.gr.block k hk hne
theorem strs_succ {rs : List Field} {k : Nat} (hk : k < rs.length) {xt : ByteArray} (h : ⟨(rs[k]).text.toArray⟩ = xt) : strs ((rs.take (k + 1)).map (·.text)) = strs ((rs.take k).map (·.text)) ++ [.string xt] := by
  rw [List.take_succ_eq_append_getElem hk, ← h, List.map_append, strs, strs, List.map_append]
  rfl
theorem submit_good {w W : World} {bA : Nat} {fs : List Field} (h : 6 ≤ fs.length) {n2 n3 n4 : Int} {v : Value} (h2 : number fs[2] = some n2) (h3 : number fs[3] = some n3) (h4 : number fs[4] = some n4)
    (S : SubAt w bA (subCells fs h v n2 n3 n4) W) (ho : W.ownsRow w.heap.size 9 1 v (fs.drop 6).length (strs ((fs.drop 6).map (·.text)))) : SubmitPost w bA (submitOf fs) (.returned (.bool true)) W := by
  rw [submitOf_eq fs h, h2, h3, h4]
  refine ⟨S.gr, rfl, v, S.obj, ?_⟩
  simpa using ho

set_option maxRecDepth 100000 in
set_option maxHeartbeats 4000000 in
theorem submit_any (bA : Nat) (fv : Value) (fs : List Field) (w : World) (hA : w.heap[bA]? = some (.cells (actCells (Act.zero 10) (.slice none 0 0)).toArray 51 (0, 0))) (hf : FieldsAt w fv fs) (h : 6 ≤ fs.length) (hn : fs.length ≤ 1048576) (ht : ∀ f ∈ fs, f.text.length ≤ 1048576) :
    Calls Tryz.prog 60 #[.pointer (some ⟨bA, 0, none⟩), fv] w (SubmitPost w bA (submitOf fs)) := by
  have hf0 := hf
  have hbA : bA < w.heap.size := (Array.getElem?_eq_some_iff.1 hA).1
  have hne : fs ≠ [] := by intro e; subst e; simp at h
  obtain ⟨g, o, c, rfl, hcap, hcel⟩ := hf.cells hne
  have k0 := (hcel 0 (by omega)).1
  have k1 := (hcel 1 (by omega)).1
  have k5 := (hcel 5 (by omega)).1
  simp only [Nat.zero_mul, Nat.add_zero, Nat.one_mul, Nat.reduceMul] at k0 k1 k5
  have S0 : SubAt w bA (actCells (Act.zero 10) (.slice none 0 0)).toArray w := ⟨hA, ⟨rfl, rfl, rfl, Nat.le_refl _, fun _ _ _ => rfl⟩⟩
  have a1 := S0.cell 1 (u := .string ⟨#[]⟩) rfl
  have a5 := S0.cell 5 (u := .string ⟨#[]⟩) rfl
  have a6 := S0.cell 6 (u := .string ⟨#[]⟩) rfl
  have b1 := S0.free 1
  have b5 := S0.free 5
  have b6 := S0.free 6
  go_enter Tryz.func60, Tryz.ntmps60
  go_wp2_with fail
  go_region
  refine (?k : ∀ W, SubAt w bA (subCells fs h (.slice none 0 0) 0 0 0) W → Exit.then _ _ _ _ W) _ (((S0.set 1 _).set 6 _).set 5 _).drew
  clear k0 k1 k5 a1 a5 a6 b1 b5 b6 S0 hf hcel
  intro W1 S1
  go_wp2_with fail
  go_region
  refine (?k2 : ∀ W, Sub2 w bA (subCells fs h (.slice none 0 0) 0 0 0) W1.heap.size W → Exit.then _ _ _ _ W) _ ⟨(S1.below ((Below.refl _ _).alloc (Nat.le_refl _) _)).drew, by show (W1.heap.push _)[W1.heap.size]? = _; simp⟩
  generalize W1.heap.size = p
  clear S1
  intro W S
  obtain ⟨g', o', c', e, -, hcel⟩ := (hf0.grown hA S.sub.gr).cells hne
  injection e with e1 _ e2
  injection e1 with e1
  injection e1 with e1 e3
  subst e1 e2 e3
  obtain ⟨k2, k2'⟩ := hcel 2 (by omega)
  obtain ⟨k3, k3'⟩ := hcel 3 (by omega)
  obtain ⟨k4, k4'⟩ := hcel 4 (by omega)
  have p0 := S.get 0 rfl
  simp only [Nat.reduceMul] at k2 k2' k3 k3' k4 k4'
  clear hcel
  have t2 := ht fs[2] (List.getElem_mem (by omega))
  have t3 := ht fs[3] (List.getElem_mem (by omega))
  have t4 := ht fs[4] (List.getElem_mem (by omega))
  have q8 := S.sub.cell 8 (u := .int .i64 0) rfl
  have f8 := S.sub.free 8
  go_wp2_with fail
  refine wp_loop_rounds 4 ?_
  rw [rounds_succ]
  cases hn2 : number fs[2] with
  | none =>
    have HN := Lib.hid hn2
    clear hn2
    go_wp2_with ((go_at_call 38; (with_reducible refine (number_none fs[2] t2 HN.out _).mono ?_); rintro e w' ⟨rfl, hb1⟩))
    go_ret
    exact submit_bad (S.below hb1).sub.gr (submit_2 h HN.out)
  | some n2 =>
    have HN2 := Lib.hid hn2
    clear hn2
    go_wp2_with ((go_at_call 38; (with_reducible refine (number_some fs[2] t2 n2 HN2.out _).mono ?_); rintro e w' ⟨rfl, hb1⟩; have S' := S.below hb1; have q8' := S'.sub.cell 8 (u := .int .i64 0) rfl; have f8' := S'.sub.free 8))
    have S2 := S'.set 8 (.int .i64 n2)
    refine (?k3 : ∀ W, Sub2 w bA (subCells fs h (.slice none 0 0) n2 0 0) p W → Code.rounds _ _ _ _ _ W) _ S2
    clear S S' S2 hb1 q8' f8' q8 f8 p0 k2 k2' k3 k3' k4 k4'
    intro W3 S
    obtain ⟨g', o', c', e, -, hcel⟩ := (hf0.grown hA S.sub.gr).cells hne
    injection e with e1 _ e2
    injection e1 with e1
    injection e1 with e1 e3
    subst e1 e2 e3
    obtain ⟨k3, k3'⟩ := hcel 3 (by omega)
    have p1 := S.get 1 rfl
    simp only [Nat.reduceMul] at k3 k3'
    clear hcel
    have q9 := S.sub.cell 9 (u := .int .i64 0) rfl
    have f9 := S.sub.free 9
    rw [rounds_succ]
    cases hn3 : number fs[3] with
    | none =>
      have HN := Lib.hid hn3
      clear hn3
      go_wp2_with ((go_at_call 38; (with_reducible refine (number_none fs[3] t3 HN.out _).mono ?_); rintro e w' ⟨rfl, hb1⟩))
      go_ret
      exact submit_bad (S.below hb1).sub.gr (submit_3 h HN.out)
    | some n3 =>
      have HN3 := Lib.hid hn3
      clear hn3
      go_wp2_with ((go_at_call 38; (with_reducible refine (number_some fs[3] t3 n3 HN3.out _).mono ?_); rintro e w' ⟨rfl, hb1⟩; have S' := S.below hb1; have q8' := S'.sub.cell 9 (u := .int .i64 0) rfl; have f8' := S'.sub.free 9))
      have S2 := S'.set 9 (.int .i64 n3)
      refine (?k4 : ∀ W, Sub2 w bA (subCells fs h (.slice none 0 0) n2 n3 0) p W → Code.rounds _ _ _ _ _ W) _ S2
      clear S S' S2 hb1 q8' f8' q9 f9 p1 k3 k3'
      intro W4 S
      obtain ⟨g', o', c', e, -, hcel⟩ := (hf0.grown hA S.sub.gr).cells hne
      injection e with e1 _ e2
      injection e1 with e1
      injection e1 with e1 e3
      subst e1 e2 e3
      obtain ⟨k4, k4'⟩ := hcel 4 (by omega)
      have p2 := S.get 2 rfl
      simp only [Nat.reduceMul] at k4 k4'
      clear hcel
      have q10 := S.sub.cell 10 (u := .int .i64 0) rfl
      have f10 := S.sub.free 10
      rw [rounds_succ]
      cases hn4 : number fs[4] with
      | none =>
        have HN := Lib.hid hn4
        clear hn4
        go_wp2_with ((go_at_call 38; (with_reducible refine (number_none fs[4] t4 HN.out _).mono ?_); rintro e w' ⟨rfl, hb1⟩))
        go_ret
        exact submit_bad (S.below hb1).sub.gr (submit_4 h HN.out)
      | some n4 =>
        have HN4 := Lib.hid hn4
        clear hn4
        go_wp2_with ((go_at_call 38; (with_reducible refine (number_some fs[4] t4 n4 HN4.out _).mono ?_); rintro e w' ⟨rfl, hb1⟩; have S' := S.below hb1; have q8' := S'.sub.cell 10 (u := .int .i64 0) rfl; have f8' := S'.sub.free 10))
        have S2 := (S'.set 10 (.int .i64 n4)).sub
        refine (?k5 : ∀ W, SubAt w bA (subCells fs h (.slice none 0 0) n2 n3 n4) W → Code.rounds _ _ _ _ _ W) _ S2
        clear S S' S2 hb1 q8' f8' q10 f10 p2 k4 k4'
        intro W5 S
        rw [rounds_succ]
        by_cases hc6 : c = 6
        · have hl6 : fs.length = 6 := by omega
          subst hc6
          go_wp2_with fail
          refine wp_loop_rounds 1 ?_
          rw [rounds_succ]
          go_wp2_with fail
          go_ret
          refine submit_good h HN2.out HN3.out HN4.out S ?_
          rw [List.drop_eq_nil_of_le (by omega)]
          exact World.ownsRow_nil _ _ _ _
        · go_wp2_with fail
          obtain ⟨m, hm⟩ : ∃ m, fs.length - 6 = m := ⟨_, rfl⟩
          obtain ⟨c6, hc⟩ : ∃ c6, c - 6 = c6 := ⟨_, rfl⟩
          have hmc : m ≤ c6 := by omega
          have hm9 : m ≤ 1048576 := by omega
          rw [hm, hc]
          have hF : ∀ wr, w.grownBy wr (some bA) → FieldsAt wr (.slice (some ⟨g, o + 12, none⟩) m c6) (fs.drop 6) := fun wr hg => by
            have := (hf0.grown hA hg).drop 6 (o + 12) h (fun _ => rfl)
            rwa [hm, hc] at this
          have hlen : (fs.drop 6).length = m := by rw [List.length_drop, hm]
          have HM := Lib.hid hm
          clear hm hc hc6 hf0 hA
          generalize hrs : fs.drop 6 = rs at hF hlen
          have HR := Lib.hid hrs
          clear hrs
          go_loopw [74] (fun i wr => ∃ (k : Nat) (v : Value), i = .int .i64 k ∧ k ≤ m ∧ SubAt w bA (subCells fs h v n2 n3 n4) wr ∧ wr.ownsRow w.heap.size 9 1 v k (strs ((rs.take k).map (·.text)))) (fun i _ => m - (intOf i).toNat)
          case atStart => exact ⟨0, _, rfl, Nat.zero_le _, S, World.ownsRow_nil _ _ _ _⟩
          case round =>
            clear S
            obtain ⟨k, v, rfl, hk, S, hown⟩ := hrel
            by_cases hlt : k < m
            · have hkr : k < rs.length := by omega
              obtain ⟨g', o', c', e, -, hcel⟩ := (hF wr S.gr).cells (fun e => by rw [e] at hkr; exact absurd hkr (Nat.not_lt_zero _))
              injection e with e1 e9 e2
              clear e9
              injection e1 with e1
              injection e1 with e1 e3
              subst e1 e2 e3
              obtain ⟨x1, x2⟩ := hcel k hkr
              clear hcel
              generalize hxt : (⟨(rs[k]'hkr).text.toArray⟩ : ByteArray) = xt at x1
              generalize (rs[k]'hkr).quoted = xq at x2
              have HX := Lib.hid hxt
              have HL := Lib.hid hlen
              have HF := Lib.hid hF
              clear hxt hF hlen
              have v7 := S.cell 7 (u := v) rfl
              have f7 := S.free 7
              obtain ⟨i9, hi9, hz9, hs9, hb9⟩ := info_parts info9
              have hsz := S.gr.size
              have hxn : (wr.alloc (.cells #[.string xt, .bool xq] 95)).heap[wr.heap.size]? = some (.cells #[.string xt, .bool xq] 95 (0, 0)) := by
                show (wr.heap.push _)[wr.heap.size]? = _
                simp
              have S1 := S.below ((Below.refl _ _).alloc (Nat.le_refl _) (.cells #[.string xt, .bool xq] 95))
              have hown1 := own_alloc hown (.cells #[.string xt, .bool xq] 95)
              go_wp2_with fail
              refine (?k9 : ∀ xb W, SubAt w bA (subCells fs h v n2 n3 n4) W → W.ownsRow w.heap.size 9 1 v k (strs ((rs.take k).map (·.text))) → W.heap[xb]? = some (.cells #[.string xt, .bool xq] 95 (0, 0)) → Code.wp _ _ _ { tmps := #[_, _, _, _, _, _, _, _, _, _, .pointer (some ⟨xb, 0, none⟩), _, _, _, _, _, _, _, _, _, _, _, _, _, _, _, _, _, _, _, _, _, _, _, _, _, _, _, _, _, _, _, _, _, _, _, _, _, _, _, _, _, _, _, _, _, _, _, _, _, _, _, _, _, _, _, _, _, _, _, _, _, _, _, _, _, _, _, _, _, _, _, _, _, _, _, _, _, _, _, _, _], defers := [] } W) _ _ S1 hown1 hxn
              clear hown S hsz v7 f7 hxn S1 hown1
              intro xb W6 S hown hxb
              obtain ⟨i9, hi9, hz9, hs9, hb9⟩ := info_parts info9
              have hsz := S.gr.size
              have v7 := S.cell 7 (u := v) rfl
              have f7 := S.free 7
              have hx0 : W6.cell? ⟨xb, 0, none⟩ = some (.string xt) := by simp only [World.cell?, hxb]; rfl
              have v7' : (W6.alloc (.cells #[.string xt] 9)).cell? ⟨bA, 7, none⟩ = some v := (S.below ((Below.refl _ _).alloc (Nat.le_refl _) _)).cell 7 rfl
              go_region_law (refine step_append_lies _ (by rfl) _ _ _ (by rfl) w.heap.size 9 i9 _ 1 16 Tryz.underlying47 hi9 hz9 hs9 hb9 rfl (by omega) v k _ (by rfl) ((hown.alloc _).drew) ⟨W6.heap.size, 0, none⟩ 1 1 [.string xt] (by rfl) (by rfl) (World.news_of_block (cs := #[.string xt]) (t := 9) (fr := (0, 0)) (heap_alloc_new W6 _)) (by simp [Value.oneCell']) (by omega) (by unfold maxLen; omega) (by omega) (by simp; omega) (W6.heap.size + 1) (by simp) ?_; intro gg cap w1 hown1 hgrow hat hlt1; have S7 := S.app hbA _ hgrow (fun g e => (hown.lt g e).1); have c7 := S7.cell 7 (u := v) rfl; have z7 := S7.free 7)
              all_goals (
                go_wp2_with fail
                go_roundw
                case rel =>
                  refine ⟨k + 1, _, by go_num, hlt, S7.set 7 _, ?_⟩
                  rw [strs_succ hkr HX.out]
                  exact ownsRow_setCell_below hown1 hbA _
                case measure => simp [intOf]; omega)
            · have hke : k = m := by omega
              subst hke
              go_wp2_with fail
              go_ret
              refine submit_good h HN2.out HN3.out HN4.out S ?_
              rw [HR.out, hlen]
              rwa [List.take_of_length_le (by omega)] at hown
end Go.Proofs.YtmkmkccdlopogaaGreatDoor.Con
