/- The words of (*reader).act: the verbs' table, the act under way, the reader with one act more. -/
import Derived.Test.YtmkmkccdlopogaaGreatDoorProg
import Derived.Test.YtmkmkccdlopogaaGreatDoorConO
import Derived.Deep.RegionHeld3
import Derived.Deep.DeepCutAuto
set_option linter.unusedVariables false
set_option linter.unusedSimpArgs false
namespace Go.Proofs.YtmkmkccdlopogaaGreatDoor.Con
open Go.RowKit

/-- the table of verbs: word and letters, by kind -/
def vtab : List (ByteArray × ByteArray) := [(⟨#[]⟩, ⟨#[]⟩), (⟨#[109, 107, 100, 105, 114]⟩, ⟨#[112]⟩), (⟨#[99, 114, 101, 97, 116, 101]⟩, ⟨#[112]⟩), (⟨#[97, 112, 112, 101, 110, 100]⟩, ⟨#[112, 100]⟩), (⟨#[99, 108, 111, 115, 101]⟩, ⟨#[112]⟩), (⟨#[100, 101, 108, 101, 116, 101]⟩, ⟨#[112]⟩), (⟨#[114, 101, 110, 97, 109, 101]⟩, ⟨#[112, 113]⟩), (⟨#[108, 105, 109, 105, 116]⟩, ⟨#[112, 110]⟩), (⟨#[114, 101, 97, 100]⟩, ⟨#[112]⟩), (⟨#[108, 105, 115, 116]⟩, ⟨#[112]⟩), (⟨#[115, 117, 98, 109, 105, 116]⟩, ⟨#[]⟩), (⟨#[115, 116, 97, 116, 117, 115]⟩, ⟨#[112]⟩)]
def vcells : List Value := vtab.flatMap fun p => [.string p.1, .string p.2]
def vcA : Array Value := vcells.toArray
def VB (w : World) : Prop := ∃ t fz, w.heap[0]? = some (.cells vcA t fz)
theorem VB.below {B0 : Nat} {w w' : World} (h : VB w) (hB : 0 < B0) (hb : Below B0 w w') : VB w' := by
  obtain ⟨t, fz, h⟩ := h
  exact ⟨t, fz, by rw [hb.block 0 hB]; exact h⟩

theorem idx_at : ∀ k : Nat, k < 12 → ∀ p : ByteArray × ByteArray, vtab[k]? = some p → ∀ w, (Instr.index 87 (.agg vcA) (.int .i64 (k : Int))).run Tryz.prog w = .ok (.agg #[.string p.1, .string p.2]) w
  | 0, _, _, h, _ => by cases h; kernel_rfl
  | 1, _, _, h, _ => by cases h; kernel_rfl
  | 2, _, _, h, _ => by cases h; kernel_rfl
  | 3, _, _, h, _ => by cases h; kernel_rfl
  | 4, _, _, h, _ => by cases h; kernel_rfl
  | 5, _, _, h, _ => by cases h; kernel_rfl
  | 6, _, _, h, _ => by cases h; kernel_rfl
  | 7, _, _, h, _ => by cases h; kernel_rfl
  | 8, _, _, h, _ => by cases h; kernel_rfl
  | 9, _, _, h, _ => by cases h; kernel_rfl
  | 10, _, _, h, _ => by cases h; kernel_rfl
  | 11, _, _, h, _ => by cases h; kernel_rfl
  | n + 12, h, _, _, _ => absurd h (by omega)
theorem vtab_len : vtab.length = 12 := rfl
/-- the word's kind: none before k -/
def NoVerb (word : B) (k : Nat) : Prop := ∀ j, 1 ≤ j → j < k → ∀ p, vtab[j]? = some p → p.1.data.toList ≠ word
theorem findVerb_from (word : B) : ∀ (l : List (B × B)) (b : Nat) (k : Nat) (p : B × B), (∀ j, j < k → ∀ q, l[j]? = some q → q.1 ≠ word) → l[k]? = some p → p.1 = word → findVerb b l word = some (b + k, p.2)
  | [], _, k, _, _, h, _ => by simp at h
  | (v, a) :: l, b, 0, p, _, h, e => by
    simp at h; subst h
    simp only [findVerb]; rw [if_pos e]; rfl
  | (v, a) :: l, b, k + 1, p, hn, h, e => by
    have h0 := hn 0 (by omega) (v, a) rfl
    simp only [findVerb]; rw [if_neg h0]
    have := findVerb_from word l (b + 1) k p (fun j hj q hq => hn (j + 1) (by omega) q (by simpa using hq)) (by simpa using h) e
    rw [this]; congr 2; omega
theorem findVerb_no (word : B) : ∀ (l : List (B × B)) (b : Nat), (∀ (j : Nat) (q : B × B), l[j]? = some q → q.1 ≠ word) → findVerb b l word = none
  | [], _, _ => rfl
  | (v, a) :: l, b, h => by
    simp only [findVerb]; rw [if_neg (h 0 (v, a) rfl)]
    exact findVerb_no word l (b + 1) fun j q hq => h (j + 1) q (by simpa using hq)
theorem vtab_eq : vtab = (⟨#[]⟩, ⟨#[]⟩) :: verbs.map fun p => ((⟨p.1.toArray⟩ : ByteArray), (⟨p.2.toArray⟩ : ByteArray)) := rfl
theorem vtab_succ (j : Nat) : vtab[j + 1]? = (verbs[j]?).map fun p => ((⟨p.1.toArray⟩ : ByteArray), (⟨p.2.toArray⟩ : ByteArray)) := by
  rw [vtab_eq, List.getElem?_cons_succ, List.getElem?_map]
theorem verb_hit {word : B} {k : Nat} (hn : NoVerb word k) (h1 : 1 ≤ k) {p : ByteArray × ByteArray} (hp : vtab[k]? = some p) (e : p.1.data.toList = word) : findVerb 1 verbs word = some (k, p.2.data.toList) := by
  obtain ⟨j, rfl⟩ : ∃ j, k = j + 1 := ⟨k - 1, by omega⟩
  rw [vtab_succ] at hp
  cases hv : verbs[j]? with
  | none => simp [hv] at hp
  | some q =>
    simp [hv] at hp
    subst hp
    have := findVerb_from word verbs 1 j q (fun i hi r hr => by
      have := hn (i + 1) (by omega) (by omega) _ (by rw [vtab_succ, hr]; rfl)
      simpa using this) hv (by simpa using e)
    rw [this]; congr 2; omega
theorem verb_none {word : B} (hn : NoVerb word 12) : findVerb 1 verbs word = none := by
  refine findVerb_no word verbs 1 fun j q hq => ?_
  have hj : j < 11 := (List.getElem?_eq_some_iff.1 hq).1
  have := hn (j + 1) (by omega) (by omega) _ (by rw [vtab_succ, hq]; rfl)
  simpa using this
theorem NoVerb.next {word : B} {k : Nat} (hn : NoVerb word k) (h : ∀ p, vtab[k]? = some p → 1 ≤ k → p.1.data.toList ≠ word) : NoVerb word (k + 1) := fun j h1 hj p hp => by
  rcases Nat.lt_or_ge j k with hlt | hge
  · exact hn j h1 hlt p hp
  · have : j = k := by omega
    subst this; exact h p hp h1

/-- a line that begins with a verb -/
def actS (s : Script) (word : B) (rest : List Field) : Except Int Script :=
  match findVerb 1 verbs word with
  | none => .error 260
  | some (k, args) =>
    match actOf k args rest with
    | none => .error 2
    | some a => if s.acts = [] then .error 3 else .ok { s with acts := addAct s.acts a }

theorem actS_bad {s : Script} {word args : B} {k : Nat} {fs : List Field} (h : findVerb 1 verbs word = some (k, args)) (h2 : actOf k args fs = none) : actS s word fs = .error 2 := by
  unfold actS; rw [h]; simp only [h2]
theorem actS_three {s : Script} {word args : B} {k : Nat} {fs : List Field} {a : Act} (h : findVerb 1 verbs word = some (k, args)) (h2 : actOf k args fs = some a) (h3 : s.acts = []) : actS s word fs = .error 3 := by
  unfold actS; rw [h]; simp only [h2]; rw [if_pos h3]
theorem actS_ok {s : Script} {word args : B} {k : Nat} {fs : List Field} {a : Act} (h : findVerb 1 verbs word = some (k, args)) (h2 : actOf k args fs = some a) (h3 : s.acts ≠ []) : actS s word fs = .ok { s with acts := addAct s.acts a } := by
  unfold actS; rw [h]; simp only [h2]; rw [if_neg h3]
theorem submitOf_few {fs : List Field} (h : fs.length < 6) : submitOf fs = none := by
  match fs, h with
  | [], _ => rfl
  | [_], _ => rfl
  | [_, _], _ => rfl
  | [_, _, _], _ => rfl
  | [_, _, _, _], _ => rfl
  | [_, _, _, _, _], _ => rfl
  | _ :: _ :: _ :: _ :: _ :: _ :: _, h => simp at h; omega
theorem submit_all (bA : Nat) (fv : Value) (fs : List Field) (w : World) (z : Int) (hz : z = 10) (hA : w.heap[bA]? = some (.cells (actCells (Act.zero z) (.slice none 0 0)).toArray 51 (0, 0))) (hf : FieldsAt w fv fs) (hn : fs.length ≤ 1048576) (ht : ∀ f ∈ fs, f.text.length ≤ 1048576) :
    Calls Tryz.prog 60 #[.pointer (some ⟨bA, 0, none⟩), fv] w (SubmitPost w bA (submitOf fs)) := by
  subst hz
  rcases Nat.lt_or_ge fs.length 6 with h | h
  · refine (submit_few bA fv fs w hf h).mono ?_
    rintro e w' ⟨rfl, rfl⟩
    exact submit_bad ⟨rfl, rfl, rfl, Nat.le_refl _, fun _ _ _ => rfl⟩ (submitOf_few h)
  · exact submit_any bA fv fs w hA hf h hn ht

/-- the act under way: its block p, the verb's block q, and what is still to read -/
def actRest (k : Nat) (fs : List Field) : List Field := if k = 10 then [] else fs
structure ActIs (wr : World) (q p : Nat) (wk ak : ByteArray) (x : Act) (v : Value) (W : World) : Prop where
  obj : W.heap[p]? = some (.cells (actCells x v).toArray 51 (0, 0))
  verb : W.heap[q]? = some (.cells #[.string wk, .string ak] 86 (0, 0))
  ins : W.ownsRow wr.heap.size 9 1 v x.job.inputs.length (strs x.job.inputs)
/-- is it right so far? -/
def ActPre (wr : World) (wk ak : ByteArray) (k : Nat) (fs : List Field) (j : Nat) (b : Bool) (W : World) : Prop :=
  Below wr.heap.size wr W ∧ wr.heap.size + 1 < W.heap.size ∧ if b then ∃ x v, ActIs wr wr.heap.size (wr.heap.size + 1) wk ak x v W ∧ (actRest k fs).length = ak.size ∧ j ≤ ak.size ∧ argsOf (ak.data.toList.drop j) ((actRest k fs).drop j) x = actOf k ak.data.toList fs
    else actOf k ak.data.toList fs = none
theorem argsOf_len : ∀ (cs : B) (fs : List Field) (a : Act), cs.length ≠ fs.length → argsOf cs fs a = none
  | [], [], _, h => absurd rfl h
  | [], _ :: _, _, _ => rfl
  | _ :: _, [], _, _ => rfl
  | c :: cs, f :: fs, a, h => by
    have ih := fun a => argsOf_len cs fs a (by simpa using h)
    simp only [argsOf, ih]
    split
    · rfl
    · split
      · rfl
      · split
        · rfl
        · split <;> rfl
theorem own_mono {w : World} {B B' e size n : Nat} {v : Value} {xs : List Value} (h : w.ownsRow B e size v n xs) (hB : B' ≤ B) : w.ownsRow B' e size v n xs := by
  refine ⟨h.1, ?_⟩
  rcases h.2 with h2 | ⟨g, cap, cur, hv, hg, r⟩
  · exact .inl h2
  · exact .inr ⟨g, cap, cur, hv, Nat.le_trans hB hg, r⟩
theorem verbSubmit : ∀ k, k = 10 → ∀ p : ByteArray × ByteArray, vtab[k]? = some p → p.2 = ⟨#[]⟩ := by
  rintro _ rfl p h
  cases h
  rfl
/-- the two blocks that act lays -/
def actW (wr : World) (wk ak : ByteArray) (z : Int) : World := (wr.alloc (.cells #[.string wk, .string ak] 86)).alloc (.cells (actCells (Act.zero z) (.slice none 0 0)).toArray 51)
theorem actW_below (wr : World) (wk ak : ByteArray) (z : Int) : Below wr.heap.size wr (actW wr wk ak z) := ((Below.refl _ _).alloc (Nat.le_refl _) _).alloc (by simp) _
theorem actW_p (wr : World) (wk ak : ByteArray) (z : Int) : (actW wr wk ak z).heap[wr.heap.size + 1]? = some (.cells (actCells (Act.zero z) (.slice none 0 0)).toArray 51 (0, 0)) := heap_alloc2_new wr _ _
theorem actW_q (wr : World) (wk ak : ByteArray) (z : Int) : (actW wr wk ak z).heap[wr.heap.size]? = some (.cells #[.string wk, .string ak] 86 (0, 0)) := by
  unfold actW
  rw [heap_alloc_old _ _ (by simp)]
  exact heap_alloc_new wr _
theorem actW_size (wr : World) (wk ak : ByteArray) (z : Int) : (actW wr wk ak z).heap.size = wr.heap.size + 2 := by simp [actW]
theorem pre_args {wr : World} {wk ak : ByteArray} {k : Nat} {fs : List Field} (h10 : ¬ k = 10) : ActPre wr wk ak k fs 0 ((fs.length : Int) == (ak.size : Int)) (actW wr wk ak (k : Int)) := by
  refine ⟨actW_below _ _ _ _, by rw [actW_size]; omega, ?_⟩
  have e : actOf k ak.data.toList fs = argsOf ak.data.toList fs (Act.zero k) := by simp [actOf, h10]
  have er : actRest k fs = fs := by simp [actRest, h10]
  by_cases hl : fs.length = ak.size
  · have hb : ((fs.length : Int) == (ak.size : Int)) = true := by simp [hl]
    rw [hb, if_pos rfl, e, er]
    exact ⟨Act.zero k, .slice none 0 0, ⟨actW_p _ _ _ _, actW_q _ _ _ _, World.ownsRow_nil _ _ _ _⟩, hl, Nat.zero_le _, rfl⟩
  · have hb : ((fs.length : Int) == (ak.size : Int)) = false := by rw [beq_eq_false_iff_ne]; omega
    rw [hb, if_neg (by simp), e]
    exact argsOf_len _ _ _ (fun h => hl (by rw [← h]; simp))
theorem pre_submit {wr : World} {wk ak : ByteArray} {k : Nat} {fs : List Field} (h10 : k = 10) (hp : vtab[k]? = some (wk, ak)) {e : Ending} {w' : World} (h : SubmitPost (actW wr wk ak (k : Int)) (wr.heap.size + 1) (submitOf fs) e w') :
    ∃ b : Bool, e = .returned (.bool b) ∧ ActPre wr wk ak k fs 0 b w' := by
  have ea : ak = ⟨#[]⟩ := verbSubmit k h10 _ hp
  have eo : actOf k ak.data.toList fs = submitOf fs := by simp [actOf, h10]
  have er : actRest k fs = [] := by simp [actRest, h10]
  obtain ⟨hg, h⟩ := h
  have hb : Below wr.heap.size wr w' := (actW_below wr wk ak k).trans ⟨hg.os, hg.tape, hg.output, hg.size, fun i hi => hg.block i (by rw [actW_size]; omega) (fun e => by injection e; omega)⟩
  have hz : wr.heap.size + 1 < w'.heap.size := by have := hg.size; rw [actW_size] at this; omega
  cases hs : submitOf fs with
  | none =>
    rw [hs] at h
    exact ⟨false, h, hb, hz, by rw [if_neg (by simp), eo, hs]⟩
  | some x =>
    rw [hs] at h
    obtain ⟨rfl, v, ho, hi⟩ := h
    refine ⟨true, rfl, hb, hz, ?_⟩
    rw [if_pos rfl]
    refine ⟨x, v, ⟨ho, ?_, own_mono hi (by rw [actW_size]; omega)⟩, by rw [er, ea]; rfl, Nat.zero_le _, ?_⟩
    · rw [hg.block _ (by rw [actW_size]; omega) (fun e => by injection e; omega)]; exact actW_q _ _ _ _
    · rw [er, eo, hs, ea]; rfl
theorem letters : ∀ p ∈ vtab, ∀ c ∈ p.2.data.toList, c = 112 ∨ c = 113 ∨ c = 100 ∨ c = 110 := by decide
theorem args_p (cs : B) (f : Field) (fs : List Field) (a : Act) : argsOf (112 :: cs) (f :: fs) a = argsOf cs fs { a with path := f.text } := by simp [argsOf]
theorem args_q (cs : B) (f : Field) (fs : List Field) (a : Act) : argsOf (113 :: cs) (f :: fs) a = argsOf cs fs { a with «to» := f.text } := by simp [argsOf]
theorem args_d (cs : B) (f : Field) (fs : List Field) (a : Act) : argsOf (100 :: cs) (f :: fs) a = argsOf cs fs { a with data := f.text } := by simp [argsOf]
theorem args_n (cs : B) (f : Field) (fs : List Field) (a : Act) (n : Int) (h : number f = some n) : argsOf (110 :: cs) (f :: fs) a = argsOf cs fs { a with quota := n } := by simp [argsOf, h]
theorem args_no (cs : B) (f : Field) (fs : List Field) (a : Act) (h : number f = none) : argsOf (110 :: cs) (f :: fs) a = none := by simp [argsOf, h]
theorem ActIs.cell {wr W : World} {q p : Nat} {wk ak : ByteArray} {x : Act} {v : Value} (h : ActIs wr q p wk ak x v W) (j : Nat) {u : Value} (hu : (actCells x v)[j]? = some u) : W.cell? ⟨p, j, none⟩ = some u := by
  simp only [World.cell?, h.obj]; simpa using hu
theorem ActIs.free {wr W : World} {q p : Nat} {wk ak : ByteArray} {x : Act} {v : Value} (h : ActIs wr q p wk ak x v W) (j : Nat) : W.frozen? ⟨p, j, none⟩ = false := by simp [World.frozen?, h.obj]
theorem ActIs.args {wr W : World} {q p : Nat} {wk ak : ByteArray} {x : Act} {v : Value} (h : ActIs wr q p wk ak x v W) : W.cell? ⟨q, 1, none⟩ = some (.string ak) := by simp only [World.cell?, h.verb]; rfl
theorem ActIs.below {wr W W' : World} {q p : Nat} {wk ak : ByteArray} {x : Act} {v : Value} (h : ActIs wr q p wk ak x v W) (hb : Below W.heap.size W W') : ActIs wr q p wk ak x v W' :=
  ⟨by rw [hb.block _ (Array.getElem?_eq_some_iff.1 h.obj).1]; exact h.obj, by rw [hb.block _ (Array.getElem?_eq_some_iff.1 h.verb).1]; exact h.verb, own_below h.ins hb⟩
theorem ActIs.set {wr W : World} {q p : Nat} {wk ak : ByteArray} {x x' : Act} {v : Value} (h : ActIs wr q p wk ak x v W) (o : Nat) (u : Value) (e : (actCells x v).toArray.set! o u = (actCells x' v).toArray) (ei : x'.job.inputs = x.job.inputs) : ActIs wr q p wk ak x' v (W.setCell ⟨p, o, none⟩ u) := by
  refine ⟨by rw [← e]; exact heap_set h.obj o u, ?_, ?_⟩
  · rw [Below.heap_setCell _ _ _ _ (fun e => ?_)]
    · exact h.verb
    · subst e; have := h.verb; rw [h.obj] at this; injection this with this; injection this with _ this; cases this
  · rw [ei]; exact own_fr h.ins ((Fr.refl [51] _).setCell _ _ h.obj (by decide)) (by decide)
/-- one letter more -/
theorem pre_next {wr W : World} {wk ak : ByteArray} {k : Nat} {fs : List Field} {j : Nat} {x' : Act} {v : Value} {o : Option Act} (hb : Below wr.heap.size wr W) (hz : wr.heap.size + 1 < W.heap.size) (h : ActIs wr wr.heap.size (wr.heap.size + 1) wk ak x' v W)
    (hl : (actRest k fs).length = ak.size) (hj : j < ak.size) (ho : actOf k ak.data.toList fs = o) (e : argsOf (ak.data.toList.drop (j + 1)) ((actRest k fs).drop (j + 1)) x' = o) : ActPre wr wk ak k fs (j + 1) true W :=
  ⟨hb, hz, by rw [if_pos rfl]; exact ⟨x', v, h, hl, hj, by rw [ho]; exact e⟩⟩

theorem info51 : (Tryz.prog.info? 51).map (fun i => (i.zero, i.size, i.bytes)) = some (some (.agg #[.int .i64 0, .string ⟨#[]⟩, .string ⟨#[]⟩, .string ⟨#[]⟩, .int .i64 0, .string ⟨#[]⟩, .string ⟨#[]⟩, .slice none 0 0, .int .i64 0, .int .i64 0, .int .i64 0]), 11, 144) := by kernel_rfl
theorem own_keep {w w' : World} {b B1 e size n : Nat} {v : Value} {xs : List Value} (h : w.ownsRow b e size v n xs) (hl : ∀ g, v.ownBlock = some g → g < B1) (hb : Below B1 w w') : w'.ownsRow b e size v n xs := by
  refine ⟨h.1, ?_⟩
  rcases h.2 with h2 | ⟨g, cap, cur, hv, hg, ho, r⟩
  · exact .inl h2
  · refine .inr ⟨g, cap, cur, hv, hg, ?_, r⟩
    rw [hb.block g (hl g (by rw [hv]; rfl))]; exact ho
theorem own_set {w : World} {b e n g c : Nat} {xs : List Value} (h : w.ownsRow b e 1 (.slice (some ⟨g, 0, none⟩) n c) n xs) (i : Nat) (u : Value) : (w.setCell ⟨g, i, none⟩ u).ownsRow b e 1 (.slice (some ⟨g, 0, none⟩) n c) n (xs.set i u) := by
  refine ⟨by rw [List.length_set]; exact h.1, ?_⟩
  rcases h.2 with ⟨h2, _⟩ | ⟨g', cap, cur, hv, hg, ho, hn, hm, hs, ht⟩
  · cases h2
  · injection hv with e1 _ e3
    injection e1 with e1
    injection e1 with e1
    subst e1 e3
    refine .inr ⟨g, c, cur.set! i u, rfl, hg, heap_set ho i u, hn, hm, by simpa using hs, ?_⟩
    rw [← ht]
    simp [Array.set!, List.take_set]
theorem ActsAt.app {w : World} {B0 : Nat} {x : Act} {v : Value} (hi : w.ownsRow B0 9 1 v x.job.inputs.length (strs x.job.inputs)) : ∀ {l : List Act} {cs : List Value}, ActsAt w B0 l cs → ActsAt w B0 (l ++ [x]) (cs ++ actCells x v)
  | [], cs, h => by
    have : cs = [] := h
    subst this
    exact ⟨v, [], by simp, hi, rfl⟩
  | a :: l, cs, ⟨v', rest, e, h1, h2⟩ => ⟨v', rest ++ actCells x v, by rw [e]; simp, h1, ActsAt.app hi h2⟩
theorem addAct_last : ∀ (li : List (List Act)) (ll : List Act) (x : Act), addAct (li ++ [ll]) x = li ++ [ll ++ [x]]
  | [], _, _ => rfl
  | [l], ll, x => rfl
  | l :: l2 :: li, ll, x => by
    have := addAct_last (l2 :: li) ll x
    simp only [List.cons_append, addAct] at this ⊢
    rw [this]
theorem act_after {w2 w1 : World} {o : Obj} {B1 n : Nat} {vl : Value} {cs : List Value} (hown : w2.ownsRow B1 51 11 vl n cs) (hB1 : B1 ≤ w2.heap.size) (hg : ((w2.alloc o).drew).grownBy w1 vl.ownBlock) : Fr [51] w2 w1 ∧ Below B1 w2 w1 := by
  have hg' : (w2.alloc o).grownBy w1 vl.ownBlock := ⟨hg.os, hg.tape, hg.output, hg.size, hg.block⟩
  exact ⟨((Fr.refl [51] w2).alloc _).grown hg' (own_kindT (own_alloc hown _) (by simp)), ((Below.refl _ _).alloc hB1 _).grown hg' (by simp; omega) (own_ge hown)⟩
theorem ReaderIs.act {B0 B1 r g4 c4 : Nat} {s : Script} {vc vl vl' : Value} {vs vi : List Value} {li : List (List Act)} {ll : List Act} {x : Act} {v : Value} {cs : List Value} {w2 w1 : World} {n : Nat} (hn : s.acts.length = n)
    (h : ReaderIs B0 w2 r s (.slice (some ⟨g4, 0, none⟩) n c4) vc vs B1) (evs : vs = vi ++ [vl]) (eac : s.acts = li ++ [ll]) (hinit : InitC w2 B0 B1 vi li) (hB01 : B0 ≤ B1) (hcs : ActsAt w2 B0 ll cs)
    (hins : w2.ownsRow B0 9 1 v x.job.inputs.length (strs x.job.inputs)) (ho : w1.ownsRow B1 51 11 vl' (ll.length + 1) (cs ++ actCells x v)) (f : Fr [51] w2 w1) (hb : Below B1 w2 w1) :
    ReaderIs B0 (w1.setCell ⟨g4, n - 1, none⟩ vl') r { s with acts := addAct s.acts x } (.slice (some ⟨g4, 0, none⟩) n c4) vc (vi ++ [vl']) B1 := by
  subst hn
  have hr1 : w1.heap[r]? = some (.cells (rcells s (.slice (some ⟨g4, 0, none⟩) s.acts.length c4) vc) 75 (0, 0)) := f r _ h.obj (fun c t fz e => by injection e with _ e1; subst e1; decide)
  have hcl1 := own_fr h.cli f (by decide)
  obtain ⟨cur, fz, hg4⟩ := own_kind hcl1 g4 rfl
  have f2 : Fr [46] w1 (w1.setCell ⟨g4, s.acts.length - 1, none⟩ vl') := (Fr.refl _ _).setCell _ _ hg4 (by decide)
  have f3 : Fr [51, 46] w2 (w1.setCell ⟨g4, s.acts.length - 1, none⟩ vl') := (f.mono (by simp)).trans (f2.mono (by simp))
  have hne : r ≠ g4 := fun e => by subst e; rw [hr1] at hg4; injection hg4 with hg4; injection hg4 with _ e; cases e
  have hvi : vi.length = s.acts.length - 1 := by
    have := h.cli.1
    rw [evs] at this
    simp at this
    omega
  have hll : (addAct s.acts x).length = s.acts.length := by rw [eac, addAct_last]; simp
  refine ⟨h.ge, ?_, own_fr h.cho f3 (by decide), ?_, .inr ⟨vi, vl', li, ll ++ [x], rfl, by rw [eac]; exact addAct_last _ _ _, ?_, ⟨cs ++ actCells x v, ?_, ?_⟩, hB01⟩, ?_⟩
  · rw [Below.heap_setCell _ _ _ _ hne]; exact hr1
  · have := own_set hcl1 (s.acts.length - 1) vl'
    rw [evs, ← hvi] at this
    rw [hll, ← hvi]
    simpa using this
  · exact hinit.imp (fun _ _ _ k => own_fr k f3 (by decide)) (fun _ _ _ hl k => own_fr (own_keep k hl hb) f2 (by decide))
  · simpa using own_fr ho f2 (by decide)
  · exact ActsAt.app (own_fr hins f3 (by decide)) (hcs.imp fun _ _ _ k => own_fr k f3 (by decide))
  · rw [size_set]; exact Nat.le_trans h.le hb.size

end Go.Proofs.YtmkmkccdlopogaaGreatDoor.Con
