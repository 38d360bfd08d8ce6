/- The walk of Parse. -/
import Derived.Test.YtmkmkccdlopogaaGreatDoorProg
import Derived.Test.YtmkmkccdlopogaaGreatDoorConU
import Derived.Test.YtmkmkccdlopogaaGreatDoorConV
import Derived.Test.YtmkmkccdlopogaaGreatDoorConP
set_option linter.unusedVariables false
set_option linter.unusedSimpArgs false
namespace Go.Proofs.YtmkmkccdlopogaaGreatDoor.Con
open Go.RowKit

/-- a script in memory, without a reader -/
structure ScriptIs (B0 : Nat) (w : World) (s : Script) (va vc : Value) (vs : List Value) (B1 : Nat) : Prop where
  cho : w.ownsRow B0 3 1 vc s.choices.length (ints s.choices)
  cli : w.ownsRow B0 46 1 va s.acts.length vs
  all : CliAt w B0 B1 vs s.acts
  le : B1 ≤ w.heap.size
def ParsePost (w : World) (P : Script × Int × Nat) (e : Ending) (w' : World) : Prop :=
  Below w.heap.size w w' ∧ ∃ va vc vs B0 B1, e = .returned (.tuple #[.agg (rcells P.1 va vc), .agg #[.int .i64 P.2.1, .int .i64 (P.2.2 : Nat)]]) ∧ ScriptIs B0 w' P.1 va vc vs B1

theorem script_zero (B : Nat) (w : World) : ScriptIs B w Script.zero (.slice none 0 0) (.slice none 0 0) [] 0 :=
  ⟨World.ownsRow_nil _ _ _ _, World.ownsRow_nil _ _ _ _, .inl ⟨rfl, rfl⟩, Nat.zero_le _⟩

/-- what errors.As needs -/
def ET (w : World) : Prop := w.cell? ⟨1, 0, none⟩ = some (.iface 133 (.agg #[.pointer (some ⟨10, 62, none⟩)]))
theorem ET.lt {w : World} (h : ET w) : 1 < w.heap.size := by
  rcases Nat.lt_or_ge 1 w.heap.size with k | k
  · exact k
  · simp [ET, World.cell?, Array.getElem?_eq_none k] at h
theorem ET.below {w w' : World} (h : ET w) (hb : Below w.heap.size w w') : ET w' := (hb.cell (p := ⟨1, 0, none⟩) h.lt).trans h

abbrev z28 : Array Value := rcells Script.zero (.slice none 0 0) (.slice none 0 0)
/-- between two lines -/
structure PInv (w : World) (LB : List ByteArray) (k : Nat) (s : Script) (wr : World) : Prop where
  below : Below w.heap.size w wr
  rd : ReaderAt (w.heap.size + 1 + 1) wr (w.heap.size + 1 + 1) s
  r1 : wr.heap[w.heap.size]? = some (.cells z28 28 (0, 0))
  r2 : wr.heap[w.heap.size + 1]? = some (.cells #[.int .i64 0, .int .i64 0] 40 (0, 0))
  ln : wr.heap[w.heap.size + 1 + 1 + 1]? = some (.cells (LB.map Value.string).toArray 9 (0, 0))
  bd : Bd k s
theorem PInv.step {w : World} {LB : List ByteArray} {k k' : Nat} {s s' : Script} {wr w' : World} (h : PInv w LB k s wr) (hb : Below (w.heap.size + 1 + 1) wr w') (hf : Fr TL wr w') (hr : ReaderAt (w.heap.size + 1 + 1) w' (w.heap.size + 1 + 1) s') (hbd : Bd k' s') : PInv w LB k' s' w' :=
  ⟨h.below.trans (hb.mono (by omega)), hr, by rw [hb.block _ (by omega)]; exact h.r1, by rw [hb.block _ (by omega)]; exact h.r2, hf _ _ h.ln (fun c t fz e => by injection e with _ e1; subst e1; decide), hbd⟩
theorem PInv.lt {w : World} {LB : List ByteArray} {k : Nat} {s : Script} {wr : World} (h : PInv w LB k s wr) : w.heap.size + 1 + 1 + 1 < wr.heap.size := (Array.getElem?_eq_some_iff.1 h.ln).1
theorem PInv.up {w : World} {LB : List ByteArray} {k k' : Nat} {s : Script} {wr w' : World} (h : PInv w LB k s wr) (hb : Below wr.heap.size wr w') (hbd : Bd k' s) : PInv w LB k' s w' :=
  h.step (hb.mono (by have := h.lt; omega)) (Fr.of_below hb) (h.rd.below hb) hbd
theorem PInv.line {w : World} {LB : List ByteArray} {k : Nat} {s : Script} {wr : World} (h : PInv w LB k s wr) {x : ByteArray} (hx : LB[k]? = some x) : wr.cell? ⟨w.heap.size + 1 + 1 + 1, k, none⟩ = some (.string x) := by
  simp only [World.cell?, h.ln]
  simp [hx]
theorem PInv.start (w : World) (LB : List ByteArray) : PInv w LB 0 Script.zero ((((w.alloc (Obj.cells z28 28)).alloc (Obj.cells #[.int .i64 0, .int .i64 0] 40)).alloc (Obj.cells z28 75)).alloc (Obj.cells (LB.map Value.string).toArray 9)) := by
  refine ⟨((((Below.refl _ _).alloc (Nat.le_refl _) _).alloc (by simp) _).alloc (by simp; omega) _).alloc (by simp; omega) _, ⟨.slice none 0 0, .slice none 0 0, [], 0, ⟨Nat.le_refl _, ?_, World.ownsRow_nil _ _ _ _, World.ownsRow_nil _ _ _ _, .inl ⟨rfl, rfl⟩, Nat.zero_le _⟩⟩, ?_, ?_, ?_, Bd.zero⟩
  · rw [heap_alloc_old _ _ (by simp)]
    have := heap_alloc_new ((w.alloc (Obj.cells z28 28)).alloc (Obj.cells #[.int .i64 0, .int .i64 0] 40)) (Obj.cells z28 75)
    simpa using this
  · rw [heap_alloc_old _ _ (by simp; omega), heap_alloc_old _ _ (by simp; omega), heap_alloc_old _ _ (by simp)]
    exact heap_alloc_new _ _
  · rw [heap_alloc_old _ _ (by simp), heap_alloc_old _ _ (by simp)]
    have := heap_alloc_new (w.alloc (Obj.cells z28 28)) (Obj.cells #[.int .i64 0, .int .i64 0] 40)
    simpa using this
  · have := heap_alloc_new (((w.alloc (Obj.cells z28 28)).alloc (Obj.cells #[.int .i64 0, .int .i64 0] 40)).alloc (Obj.cells z28 75)) (Obj.cells (LB.map Value.string).toArray 9)
    simpa using this

/-- errors.As at a reader's error -/
def AsPost (W : World) (b : Nat) (e : Ending) (w' : World) : Prop := e = .returned (.bool true) ∧ Below W.heap.size W w' ∧ w'.cell? ⟨W.heap.size, 0, none⟩ = some (.pointer (some ⟨b, 0, none⟩))
theorem as_bad (W : World) (b : Nat) (hb : b < W.heap.size) (h : ET W) :
    Calls Tryz.prog 27 #[.iface 82 (.pointer (some ⟨b, 0, none⟩)), .iface 84 (.pointer (some ⟨W.heap.size, 0, none⟩))] (W.alloc (Obj.cells #[.pointer none] 82)) (AsPost W b) := by
  refine (as_hit ⟨b, 0, none⟩ ⟨W.heap.size, 0, none⟩ (.pointer none) (W.alloc (Obj.cells #[.pointer none] 82)) (h.below ((Below.refl _ _).alloc (Nat.le_refl _) _)) ?_ ?_).mono ?_
  · simp only [World.cell?, heap_alloc_new]; rfl
  · unfold World.frozen?; rw [heap_alloc_new]; rfl
  · rintro e w' ⟨rfl, rfl⟩
    refine ⟨rfl, ?_, ?_⟩
    · exact ((((((Below.refl _ _).alloc (Nat.le_refl _) _).alloc (by simp) _).alloc (by simp; omega) _).alloc (by simp; omega) _).alloc (by simp; omega) _).setCell (Nat.le_refl _) _
    · simp only [World.cell?]
      rw [heap_set (c := #[.pointer none]) (t := 82) (fz := (0, 0))]
      · rfl
      · rw [heap_alloc_old _ _ (by simp; omega), heap_alloc_old _ _ (by simp; omega), heap_alloc_old _ _ (by simp; omega), heap_alloc_old _ _ (by simp)]
        exact heap_alloc_new _ _

/-- what strings.Split needs -/
def ML (w : World) : Prop := ∃ m : Int, w.cell? ⟨2, 0, none⟩ = some (.int .i64 m)
theorem cell_below {w w' : World} {p : Addr} {v : Value} (h : w.cell? p = some v) (hb : Below w.heap.size w w') : w'.cell? p = some v := by
  have hlt : p.block < w.heap.size := by
    rcases Nat.lt_or_ge p.block w.heap.size with k | k
    · exact k
    · simp [World.cell?, Array.getElem?_eq_none k] at h
  exact (hb.cell hlt).trans h
theorem ML.below {w w' : World} (h : ML w) (hb : Below w.heap.size w w') : ML w' := by
  obtain ⟨m, h⟩ := h
  exact ⟨m, cell_below h hb⟩
theorem split_any (t : ByteArray) (w : World) (hs : t.size ≤ 1048576) (h : ML w) :
    Calls Tryz.prog 23 #[.string t, .string ⟨#[10]⟩] w fun e w' => e = .returned (.slice (some ⟨w.heap.size, 0, none⟩) (linesB t).length (linesB t).length) ∧ w' = w.alloc (.cells ((linesB t).map Value.string).toArray 9) := by
  obtain ⟨m, h⟩ := h
  rw [linesB_len]
  exact Tryz.strings_Split t ⟨#[10]⟩ m w (by omega) h (by decide)

set_option maxRecDepth 100000 in
set_option maxHeartbeats 1000000 in
theorem parse_long (t : ByteArray) (w : World) (h : 1048576 < t.size) : Calls Tryz.prog 11 #[.string t] w (ParsePost w (parse t.data.toList)) := by
  have e : parse t.data.toList = (Script.zero, 1, 0) := by unfold parse; rw [if_pos (by simpa using h)]
  rw [e]
  clear e
  go_enter Tryz.func11, Tryz.ntmps11
  go_wp2_with fail
  refine bodyPost_ret (v := .tuple #[.agg (rcells Script.zero (.slice none 0 0) (.slice none 0 0)), .agg #[.int .i64 1, .int .i64 0]]) (by simp [results, Tryz.results11, go_sem, rcells, Script.zero]) rfl ⟨((Below.refl _ _).alloc (Nat.le_refl _) _).alloc (by simp) _, _, _, [], 0, 0, rfl, script_zero _ _⟩

theorem pre_yes (x : ByteArray) (w : World) (h : x.data.toList.head? = some 35) : Calls Tryz.prog 24 #[.string x, .string ⟨#[35]⟩] w fun e w' => e = .returned (.bool true) ∧ w' = w := by
  refine (Tryz.strings_HasPrefix x ⟨#[35]⟩ w).mono ?_
  rintro e w' ⟨rfl, rfl⟩
  refine ⟨?_, rfl⟩
  have : Lib.hasPrefix x.data.toList [35] = true := by
    cases hx : x.data.toList with
    | nil => rw [hx] at h; cases h
    | cons a l => rw [hx] at h; simp at h; subst h; simp [Lib.hasPrefix]
  exact congrArg (fun b => Ending.returned (.bool b)) this
theorem pre_no (x : ByteArray) (w : World) (h : ¬ x.data.toList.head? = some 35) : Calls Tryz.prog 24 #[.string x, .string ⟨#[35]⟩] w fun e w' => e = .returned (.bool false) ∧ w' = w := by
  refine (Tryz.strings_HasPrefix x ⟨#[35]⟩ w).mono ?_
  rintro e w' ⟨rfl, rfl⟩
  refine ⟨?_, rfl⟩
  have : Lib.hasPrefix x.data.toList [35] = false := by
    cases hx : x.data.toList with
    | nil => rfl
    | cons a l =>
      rw [hx] at h
      have ha : a ≠ 35 := fun e => h (by rw [e]; rfl)
      rw [Bool.eq_false_iff]
      intro e
      simp [Lib.hasPrefix] at e
      first | exact ha e | exact ha e.symm
  exact congrArg (fun b => Ending.returned (.bool b)) this
theorem cut_none (x : ByteArray) (w : World) (hs : x.size ≤ 1048576) (h : cut x.data.toList = none) : Calls Tryz.prog 25 #[.string x] w fun e w' => ∃ b, e = .returned (.tuple #[.slice none 0 0, .iface 82 (.pointer (some ⟨b, 0, none⟩))]) ∧ Below w.heap.size w w' ∧ w.heap.size ≤ b ∧ w'.heap[b]? = some (.cells #[.int .i64 160, .int .i64 0] 40 (0, 0)) := by
  refine (cut_any x w hs).mono ?_
  intro e w' hp
  rw [h] at hp
  obtain ⟨hb, b, rfl, hB, ho⟩ := hp
  exact ⟨b, rfl, hb, hB, ho⟩
theorem cut_some (x : ByteArray) (w : World) (hs : x.size ≤ 1048576) (fs : List Field) (h : cut x.data.toList = some fs) : Calls Tryz.prog 25 #[.string x] w fun e w' => ∃ a c, e = .returned (.tuple #[.slice a fs.length c, .nilIface]) ∧ Below w.heap.size w w' ∧ FieldsAt w' (.slice a fs.length c) fs := by
  refine (cut_any x w hs).mono ?_
  intro e w' hp
  rw [h] at hp
  obtain ⟨hb, v, rfl, ho⟩ := hp
  obtain ⟨a, c, rfl⟩ := own_shape ho
  exact ⟨a, c, rfl, hb, FieldsAt.of_own ho⟩
/-- the result's cells at the end of a line that is wrong -/
structure PEnd (w w' : World) : Prop where
  c0 : w'.cell? ⟨w.heap.size, 0, none⟩ = some (.int .i64 0)
  c1 : w'.cell? ⟨w.heap.size, 1, none⟩ = some (.int .i64 0)
  c2 : w'.cell? ⟨w.heap.size, 2, none⟩ = some (.int .i64 0)
  c3 : w'.cell? ⟨w.heap.size, 3, none⟩ = some (.int .i64 0)
  c4 : w'.cell? ⟨w.heap.size, 4, none⟩ = some (.slice none 0 0)
  c5 : w'.cell? ⟨w.heap.size, 5, none⟩ = some (.slice none 0 0)
  c6 : w'.cell? ⟨w.heap.size, 6, none⟩ = some (.int .i64 0)
  c7 : w'.cell? ⟨w.heap.size, 7, none⟩ = some (.bool false)
  d0 : w'.cell? ⟨w.heap.size + 1, 0, none⟩ = some (.int .i64 0)
  d1 : w'.cell? ⟨w.heap.size + 1, 1, none⟩ = some (.int .i64 0)
  fr1 : ∀ o, w'.frozen? ⟨w.heap.size, o, none⟩ = false
  fr2 : ∀ o, w'.frozen? ⟨w.heap.size + 1, o, none⟩ = false
/-- the results' blocks -/
structure PRes (w wr : World) : Prop where
  below : Below w.heap.size w wr
  r1 : wr.heap[w.heap.size]? = some (.cells z28 28 (0, 0))
  r2 : wr.heap[w.heap.size + 1]? = some (.cells #[.int .i64 0, .int .i64 0] 40 (0, 0))
theorem PInv.res {w : World} {LB : List ByteArray} {k : Nat} {s : Script} {wr : World} (h : PInv w LB k s wr) : PRes w wr := ⟨h.below, h.r1, h.r2⟩
theorem PRes.up {w wr w' : World} (h : PRes w wr) (hb : Below (w.heap.size + 1 + 1) wr w') : PRes w w' :=
  ⟨h.below.trans (hb.mono (by omega)), by rw [hb.block _ (by omega)]; exact h.r1, by rw [hb.block _ (by omega)]; exact h.r2⟩
theorem PRes.ends {w wr : World} (h : PRes w wr) : PEnd w wr := by
  refine ⟨?_, ?_, ?_, ?_, ?_, ?_, ?_, ?_, ?_, ?_, fun o => ?_, fun o => ?_⟩
  all_goals first | (simp only [World.cell?, h.r1]; rfl) | (simp only [World.cell?, h.r2]; rfl) | (unfold World.frozen?; rw [h.r1]; rfl) | (unfold World.frozen?; rw [h.r2]; rfl)
theorem parse_end {w w' : World} {P : Script × Int × Nat} {c : Int} {k : Nat} (hb : Below w.heap.size w w') (hP : (Script.zero, c, k + 1) = P) :
    ParsePost w P (.returned (.tuple #[.agg #[.int .i64 0, .int .i64 0, .int .i64 0, .int .i64 0, .slice none 0 0, .slice none 0 0, .int .i64 0, .bool false], .agg #[.int .i64 c, .int .i64 ((k : Int) + 1)]])) w' := by
  subst hP
  exact ⟨hb, _, _, [], 0, 0, rfl, script_zero _ _⟩
def Typed (w : World) (b t : Nat) : Prop := ∃ c fz, w.heap[b]? = some (.cells c t fz)
theorem Typed.set {w : World} {b t : Nat} (h : Typed w b t) (b' o : Nat) (v : Value) : Typed (w.setCell ⟨b', o, none⟩ v) b t := by
  obtain ⟨c, fz, h⟩ := h
  by_cases e : b = b'
  · subst e; exact ⟨_, _, heap_set h o v⟩
  · exact ⟨c, fz, by rw [Below.heap_setCell _ _ _ _ e]; exact h⟩
/-- only the results' blocks are written -/
structure Kept (R : Nat) (wr w' : World) : Prop where
  fr : Fr [28, 40] wr w'
  t1 : Typed w' R 28
  t2 : Typed w' (R + 1) 40
  sz : wr.heap.size = w'.heap.size
theorem Kept.set1 {R : Nat} {wr w' : World} (h : Kept R wr w') (o : Nat) (v : Value) : Kept R wr (w'.setCell ⟨R, o, none⟩ v) := by
  obtain ⟨c, fz, h1⟩ := h.t1
  exact ⟨h.fr.setCell _ _ h1 (by decide), h.t1.set _ _ _, h.t2.set _ _ _, by rw [size_set]; exact h.sz⟩
theorem Kept.set2 {R : Nat} {wr w' : World} (h : Kept R wr w') (o : Nat) (v : Value) : Kept R wr (w'.setCell ⟨R + 1, o, none⟩ v) := by
  obtain ⟨c, fz, h1⟩ := h.t2
  exact ⟨h.fr.setCell _ _ h1 (by decide), h.t1.set _ _ _, h.t2.set _ _ _, by rw [size_set]; exact h.sz⟩
theorem ScriptIs.fr {B0 B1 : Nat} {w w' : World} {s : Script} {va vc : Value} {vs : List Value} (h : ScriptIs B0 w s va vc vs B1) {T : List Nat} (hf : Fr T w w') (h3 : 3 ∉ T) (h46 : 46 ∉ T) (h9 : 9 ∉ T) (h51 : 51 ∉ T) (hs : w.heap.size ≤ w'.heap.size) : ScriptIs B0 w' s va vc vs B1 :=
  ⟨own_fr h.cho hf h3, own_fr h.cli hf h46, h.all.fr hf h9 h51, Nat.le_trans h.le hs⟩
theorem ScriptIs.below {B0 B1 : Nat} {w w' : World} {s : Script} {va vc : Value} {vs : List Value} (h : ScriptIs B0 w s va vc vs B1) (hb : Below w.heap.size w w') : ScriptIs B0 w' s va vc vs B1 :=
  h.fr (Fr.of_below (T := []) hb) (by simp) (by simp) (by simp) (by simp) hb.size
theorem parse_done {w wr w' : World} {P : Script × Int × Nat} {s : Script} {va vc : Value} {vs : List Value} {B1 B0 : Nat} (hb : Below w.heap.size w w') (hP : (s, 0, 0) = P) (hk : Kept w.heap.size wr w') (hs : ScriptIs B0 wr s va vc vs B1) :
    ParsePost w P (.returned (.tuple #[.agg (rcells s va vc), .agg #[.int .i64 0, .int .i64 0]])) w' := by
  subst hP
  exact ⟨hb, va, vc, vs, B0, B1, rfl, hs.fr hk.fr (by decide) (by decide) (by decide) (by decide) (Nat.le_of_eq hk.sz)⟩
theorem cut_cons (x : ByteArray) (w : World) (hs : x.size ≤ 1048576) (f : Field) (fl : List Field) (h : cut x.data.toList = some (f :: fl)) : Calls Tryz.prog 25 #[.string x] w fun e w' => ∃ a c, e = .returned (.tuple #[.slice a (fl.length + 1) c, .nilIface]) ∧ Below w.heap.size w w' ∧ FieldsAt w' (.slice a (fl.length + 1) c) (f :: fl) := cut_some x w hs _ h
theorem cut_nil (x : ByteArray) (w : World) (hs : x.size ≤ 1048576) (h : cut x.data.toList = some []) : Calls Tryz.prog 25 #[.string x] w fun e w' => ∃ a c, e = .returned (.tuple #[.slice a 0 c, .nilIface]) ∧ Below w.heap.size w w' := by
  refine (cut_some x w hs _ h).mono ?_
  rintro e w' ⟨a, c, rfl, hb, _⟩
  exact ⟨a, c, rfl, hb⟩
theorem ones_none {l : B} {LS : List B} {k : Nat} {s : Script} {P : Script × Int × Nat} (h1 : ¬ l.head? = some 35) (h : parseLines (l :: LS) k s = P) (hc : cut l = none) : (Script.zero, 160, k + 1) = P := by
  rw [← h, parseLines, if_neg h1, hc]
theorem ones_nil {l : B} {LS : List B} {k : Nat} {s : Script} {P : Script × Int × Nat} (h1 : ¬ l.head? = some 35) (h : parseLines (l :: LS) k s = P) (hc : cut l = some []) : parseLines LS (k + 1) s = P := by
  rw [parseLines, if_neg h1, hc] at h
  exact h
theorem ones_ok {l : B} {LS : List B} {k : Nat} {s s1 : Script} {P : Script × Int × Nat} {f : Field} {fl : List Field} (h1 : ¬ l.head? = some 35) (h : parseLines (l :: LS) k s = P) (hc : cut l = some (f :: fl)) (hl : lineS s f fl = .ok s1) : parseLines LS (k + 1) s1 = P := by
  rw [parseLines, if_neg h1, hc] at h
  simp only [hl] at h
  exact h
theorem ones_bad {l : B} {LS : List B} {k : Nat} {s : Script} {P : Script × Int × Nat} {f : Field} {fl : List Field} {c : Int} (h1 : ¬ l.head? = some 35) (h : parseLines (l :: LS) k s = P) (hc : cut l = some (f :: fl)) (hl : lineS s f fl = .error c) : (Script.zero, c, k + 1) = P := by
  rw [parseLines, if_neg h1, hc] at h
  simp only [hl] at h
  exact h

set_option maxRecDepth 100000 in
set_option maxHeartbeats 4000000 in
theorem parse_short (t : ByteArray) (w : World) (h : t.size ≤ 1048576) (hm : ML w) (hv : VB w) (het : ET w) : Calls Tryz.prog 11 #[.string t] w (ParsePost w (parse t.data.toList)) := by
  have h1 : ¬ 1048576 < t.size := by omega
  obtain ⟨m, hL⟩ : ∃ m, (linesB t).length = m + 1 := ⟨_, linesB_len t⟩
  have hmm : ML (((w.alloc (Obj.cells z28 28)).alloc (Obj.cells #[.int .i64 0, .int .i64 0] 40)).alloc (Obj.cells z28 75)) := hm.below ((((Below.refl _ _).alloc (Nat.le_refl _) _).alloc (by simp) _).alloc (by simp; omega) _)
  have hsp := split_any t _ h hmm
  clear hmm hm
  have hsl := (splitNl_len t.data.toList).1
  have hmt : m ≤ 1048576 := by
    have := congrArg List.length (linesB_data t)
    simp only [List.length_map] at this
    have e : t.data.toList.length = t.size := Array.length_toList
    omega
  obtain ⟨z, hz⟩ : ∃ z, (linesB t)[m]? = some z := ⟨(linesB t)[m]'(by omega), List.getElem?_eq_getElem _⟩
  have hlast : (splitNl t.data.toList).getLast? = some z.data.toList := by
    rw [← linesB_data, List.getLast?_eq_getElem?, List.length_map, hL, List.getElem?_map, Nat.add_sub_cancel, hz]; rfl
  obtain ⟨n, hn1, hn2, hn3, hn4⟩ := linesOf_take t.data.toList
  have hnl : (splitNl t.data.toList).length = m + 1 := by rw [← linesB_data, List.length_map, hL]
  have hx : ∀ k, k < n → ∃ x, (linesB t)[k]? = some x ∧ (linesOf t.data.toList).drop k = x.data.toList :: (linesOf t.data.toList).drop (k + 1) := fun k hk => by
    have hk2 : k < (linesB t).length := by omega
    refine ⟨(linesB t)[k], List.getElem?_eq_getElem _, ?_⟩
    have hk3 : k < (linesOf t.data.toList).length := by rw [hn1, List.length_take]; omega
    rw [List.drop_eq_getElem_cons hk3]
    congr 1
    have e : (linesOf t.data.toList)[k]? = some (linesB t)[k].data.toList := by
      rw [hn1, List.getElem?_take, if_pos hk, ← linesB_data, List.getElem?_map, List.getElem?_eq_getElem hk2]; rfl
    rw [List.getElem?_eq_getElem hk3] at e
    exact Option.some.inj e
  have hxs : ∀ x ∈ linesB t, x.size ≤ 1048576 := fun x hxm => by
    have := (splitNl_len t.data.toList).2 x.data.toList (by rw [← linesB_data]; exact List.mem_map_of_mem hxm)
    have e : t.data.toList.length = t.size := Array.length_toList
    have e2 : x.data.toList.length = x.size := Array.length_toList
    omega
  have hend : (linesOf t.data.toList).drop n = [] := List.drop_eq_nil_of_le (by rw [hn1, List.length_take]; omega)
  have hpar : parseLines ((linesOf t.data.toList).drop 0) 0 Script.zero = parse t.data.toList := by unfold parse; rw [if_neg (by simpa using h1)]; rfl
  have hinv := PInv.start w (linesB t)
  generalize parse t.data.toList = P at *
  generalize linesOf t.data.toList = LS at *
  generalize splitNl t.data.toList = SN at *
  generalize linesB t = LB at *
  have W1 : wrap64 ((LB.length : Int) - 1) = (m : Int) := by unfold wrap64; omega
  have N0 : (0 : Int) ≤ (m : Int) := by omega
  have N1 : (m : Int) < (LB.length : Int) := by omega
  have hN1 : m < LB.length := by omega
  have hzz : LB[m]'hN1 = z := by rw [List.getElem?_eq_getElem hN1] at hz; exact Option.some.inj hz
  have HM := Lib.hid hsp
  have HX := Lib.hid hx
  have HE := Lib.hid (And.intro hend hpar)
  have HI := Lib.hid hinv
  have HXS := Lib.hid hxs
  clear hx hend hpar hinv hxs hsl hn1 hsp
  have HV := Lib.hid (And.intro hv het)
  clear hv het
  rcases (Classical.em (z.data.toList = [])) with hze | hze
  all_goals (
    first
    | (
        have hnm := hn3 (by rw [hlast, hze])
        have t0 : z.toList.isEmpty = true := by rw [Lib.toList_data, hze]; rfl
        clear hn3 hn4 hlast hz hze
        obtain rfl : n = m := by omega
        have hnb : n ≤ 1048577 := by omega
        clear hnm
        go_enter Tryz.func11, Tryz.ntmps11
        go_wp2_with fail
        refine HM.out.mono ?_
        rintro e w' ⟨rfl, rfl⟩
        go_wp2_with fail
        clear W1 t0 hzz N1 N0
        clear hn2 hnl hmt)
    | (
        have hnm := hn4 (by rw [hlast]; exact fun e => hze (Option.some.inj e))
        have t0 : z.toList.isEmpty = false := by rw [Lib.toList_data]; cases e : z.data.toList with
          | nil => exact absurd e hze
          | cons => rfl
        have hln : LB.length = n := by omega
        have hzn : LB[n - 1]? = some z := by
          have e : n - 1 = m := by omega
          rw [e]; exact hz
        clear hn3 hn4 hlast hz hze
        have hnb : n ≤ 1048577 := by omega
        clear hnm
        rw [hln] at W1 N1
        have hN2 : m < n := by omega
        clear hnl hmt hn2
        clear hL
        go_enter Tryz.func11, Tryz.ntmps11
        go_wp2_with fail
        refine HM.out.mono ?_
        rintro e w' ⟨rfl, rfl⟩
        go_wp2_with fail
        clear W1 t0 hzz N1 N0 hzn
        have hL := hln
        clear hln)
    go_loopw [34] (fun i wr => ∃ (k : Nat) (s : Script), i = .int .i64 k ∧ k ≤ n ∧ PInv w LB k s wr ∧ parseLines (LS.drop k) k s = P) (fun i _ => n - (intOf i).toNat)
    case atStart => exact ⟨0, _, rfl, Nat.zero_le _, HI.out, HE.out.2⟩
    case round =>
      clear HI HM
      have HL0 := Lib.hid hL
      clear hL
      rename World => wr
      obtain ⟨k, s, rfl, hk, hinv, hp⟩ := hrel
      by_cases hlt : k < n
      · obtain ⟨x, hx1, hx2⟩ := HX.out k hlt
        rw [hx2] at hp
        have q0 := hinv.line hx1
        have hxl := HXS.out x (List.mem_of_getElem? hx1)
        have hkb : k ≤ 1048576 := by omega
        have HI := Lib.hid hinv
        have HP := Lib.hid hp
        clear hinv hp hx2 hx1
        by_cases hhd : x.data.toList.head? = some 35
        · have HH := Lib.hid hhd
          clear hhd
          go_wp2_with (first | (go_at_call 24; (with_reducible refine (pre_yes x _ HH.out).mono ?_); rintro e w' ⟨rfl, rfl⟩))
          go_roundw
          case rel => exact ⟨k + 1, s, by go_num, hlt, HI.out.up (Below.refl _ _) HI.out.bd.next, by have := HP.out; rwa [parseLines, if_pos HH.out] at this⟩
          case measure => simp [intOf]; omega
        · have HH := Lib.hid hhd
          clear hhd
          cases hc : cut x.data.toList with
          | none =>
            have HC := Lib.hid hc
            clear hc
            go_wp2_with (first | (go_at_call 24; (with_reducible refine (pre_no x _ HH.out).mono ?_); rintro e w' ⟨rfl, rfl⟩) | (go_at_call 25; (with_reducible refine (cut_none x _ hxl HC.out).mono ?_); rintro e w2 ⟨b, rfl, hb2, hB2, ho2⟩; have hi2 := HI.out.up hb2 HI.out.bd) | (go_at_call 27; (with_reducible refine (as_bad _ b (Array.getElem?_eq_some_iff.1 ho2).1 (HV.out.2.below hi2.below)).mono ?_); rintro e w3 ⟨rfl, hb3, ha3⟩))
            have hsz2 := hb2.size
            have hB2 : w.heap.size + 1 + 1 ≤ b := by have := HI.out.lt; omega
            have HJ := Lib.hid hi2
            clear hi2 hb2
            have W1 : IntKind.i64.wrap ((k : Int) + 1) = (k : Int) + 1 := IntWalk.i64_in _ (by omega)
            have hi3 := (HJ.out.res).up (hb3.mono (by have := HI.out.lt; have := hsz2; omega))
            obtain ⟨c0, c1, c2, c3, c4, c5, c6, c7, d0, d1, fr1, fr2⟩ := hi3.ends
            have hbb := cell_below (p := ⟨b, 0, none⟩) (v := .int .i64 160) (by simp only [World.cell?, ho2]; rfl) hb3
            have hlt2 := HI.out.lt
            have g0 : ¬ b = w.heap.size := by omega
            have g1 : ¬ b = w.heap.size + 1 := by omega
            have g2 : ¬ w.heap.size = b := by omega
            have g3 : ¬ w.heap.size + 1 = b := by omega
            have g4 : ¬ w2.heap.size = w.heap.size := by omega
            have g5 : ¬ w2.heap.size = w.heap.size + 1 := by omega
            have g6 : ¬ w.heap.size = w2.heap.size := by omega
            have g7 : ¬ w.heap.size + 1 = w2.heap.size := by omega
            have HZ := Lib.hid hi3.below
            clear hi3 ho2 q0 hb3 hlt2 hB2 hsz2
            go_region
            go_wp2_with fail
            refine bodyPost_ret (v := .tuple #[.agg #[.int .i64 0, .int .i64 0, .int .i64 0, .int .i64 0, .slice none 0 0, .slice none 0 0, .int .i64 0, .bool false], .agg #[.int .i64 160, .int .i64 ((k : Int) + 1)]]) ?hres rfl ?hpost
            case hpost =>
              refine parse_end ?_ (ones_none HH.out HP.out HC.out)
              refine Below.drew ?_
              repeat (refine Below.setCell ?_ (by simp) _)
              exact HZ.out
            case hres =>
              simp [results, Tryz.results11, go_sem, c0, c1, c2, c3, c4, c5, c6, c7, d0, d1]
          | some fl =>
            cases fl with
            | nil =>
              have HC := Lib.hid hc
              clear hc
              go_wp2_with (first | (go_at_call 24; (with_reducible refine (pre_no x _ HH.out).mono ?_); rintro e w' ⟨rfl, rfl⟩) | (go_at_call 25; (with_reducible refine (cut_nil x _ hxl HC.out).mono ?_); rintro e w2 ⟨ca, cc, rfl, hb2⟩; have hi2 := HI.out.up hb2 HI.out.bd) | (go_at_call 27; (with_reducible refine (as_nil _ _).mono ?_); rintro e w3 ⟨rfl, rfl⟩))
              go_roundw
              case rel => exact ⟨k + 1, s, by go_num, hlt, hi2.up ((Below.refl _ _).alloc (Nat.le_refl _) _) hi2.bd.next, ones_nil HH.out HP.out HC.out⟩
              case measure => simp [intOf]; omega
            | cons f fl =>
              have HC := Lib.hid hc
              have hcl := cut_len hc
              have hxe : x.data.toList.length = x.size := Array.length_toList
              rw [hxe] at hcl
              have hfl : fl.length ≤ 1048576 := by have := hcl.1; simp at this; omega
              have hft : ∀ g ∈ fl, g.text.length ≤ 1048576 := fun g hg => Nat.le_trans (hcl.2 g (by simp [hg])) hxl
              have HF := Lib.hid hft
              clear hc hcl hft hxe
              cases hln : lineS s f fl with
              | ok s1 =>
                have HL := Lib.hid hln
                clear hln
                go_wp2_with (first | (go_at_call 24; (with_reducible refine (pre_no x _ HH.out).mono ?_); rintro e w' ⟨rfl, rfl⟩) | (go_at_call 25; (with_reducible refine (cut_cons x _ hxl f fl HC.out).mono ?_); rintro e w2 ⟨ca, cc, rfl, hb2, hf2⟩; have hi2 := HI.out.up hb2 HI.out.bd; have HJ := Lib.hid hi2; clear hi2) | (go_at_call 26; (with_reducible refine (line_any (w.heap.size + 1 + 1) (w.heap.size + 1 + 1) s _ f fl _ hf2 hfl (by have := HJ.out.lt; omega) HJ.out.rd HF.out (by omega) (HV.out.1.below (by have := HV.out.2.lt; omega) HJ.out.below) (fun l hl => Nat.le_trans (HJ.out.bd.ac l hl) hkb) (by have := HJ.out.bd.al; omega) (by have := HJ.out.bd.ch; have := Nat.mul_le_mul_right 1048576 hkb; omega)).mono ?_); intro e w4 hp4; obtain ⟨hb4, hf4, rfl, hr4⟩ := hp4.okd HL.out; have hi4 := HJ.out.step hb4 hf4 hr4 (HJ.out.bd.line hfl HL.out)) | (go_at_call 27; (with_reducible refine (as_nil _ _).mono ?_); rintro e w3 ⟨rfl, rfl⟩))
                go_roundw
                case rel => exact ⟨k + 1, s1, by go_num, hlt, hi4.up ((Below.refl _ _).alloc (Nat.le_refl _) _) hi4.bd, ones_ok HH.out HP.out HC.out HL.out⟩
                case measure => simp [intOf]; omega
              | error ec =>
                have HL := Lib.hid hln
                clear hln
                go_wp2_with (first | (go_at_call 24; (with_reducible refine (pre_no x _ HH.out).mono ?_); rintro e w' ⟨rfl, rfl⟩) | (go_at_call 25; (with_reducible refine (cut_cons x _ hxl f fl HC.out).mono ?_); rintro e w2' ⟨ca, cc, rfl, hb2, hf2⟩; have hi2 := HI.out.up hb2 HI.out.bd; have HJ := Lib.hid hi2; clear hi2) | (go_at_call 26; (with_reducible refine (line_any (w.heap.size + 1 + 1) (w.heap.size + 1 + 1) s _ f fl _ hf2 hfl (by have := HJ.out.lt; omega) HJ.out.rd HF.out (by omega) (HV.out.1.below (by have := HV.out.2.lt; omega) HJ.out.below) (fun l hl => Nat.le_trans (HJ.out.bd.ac l hl) hkb) (by have := HJ.out.bd.al; omega) (by have := HJ.out.bd.ch; have := Nat.mul_le_mul_right 1048576 hkb; omega)).mono ?_); intro e w2 hp4; obtain ⟨hb4, hf4, b, rfl, hB2, ho2⟩ := hp4.bad HL.out; have HK := Lib.hid (HJ.out.res.up hb4)) | (go_at_call 27; (with_reducible refine (as_bad _ b (Array.getElem?_eq_some_iff.1 ho2).1 (HV.out.2.below HK.out.below)).mono ?_); rintro e w3 ⟨rfl, hb3, ha3⟩))
                have hsz2 : w'.heap.size ≤ w2.heap.size := Nat.le_trans hb2.size hb4.size
                clear hb2 hf2 hb4 hf4
                have W1 : IntKind.i64.wrap ((k : Int) + 1) = (k : Int) + 1 := IntWalk.i64_in _ (by omega)
                have hi3 := (HK.out).up (hb3.mono (by have := HI.out.lt; have := hsz2; omega))
                obtain ⟨c0, c1, c2, c3, c4, c5, c6, c7, d0, d1, fr1, fr2⟩ := hi3.ends
                have hbb := cell_below (p := ⟨b, 0, none⟩) (v := .int .i64 ec) (by simp only [World.cell?, ho2]; rfl) hb3
                have hlt2 := HI.out.lt
                have g0 : ¬ b = w.heap.size := by omega
                have g1 : ¬ b = w.heap.size + 1 := by omega
                have g2 : ¬ w.heap.size = b := by omega
                have g3 : ¬ w.heap.size + 1 = b := by omega
                have g4 : ¬ w2.heap.size = w.heap.size := by omega
                have g5 : ¬ w2.heap.size = w.heap.size + 1 := by omega
                have g6 : ¬ w.heap.size = w2.heap.size := by omega
                have g7 : ¬ w.heap.size + 1 = w2.heap.size := by omega
                have HZ := Lib.hid hi3.below
                clear hi3 ho2 q0 hb3 hlt2 hB2 hsz2
                go_region
                go_wp2_with fail
                refine bodyPost_ret (v := .tuple #[.agg #[.int .i64 0, .int .i64 0, .int .i64 0, .int .i64 0, .slice none 0 0, .slice none 0 0, .int .i64 0, .bool false], .agg #[.int .i64 ec, .int .i64 ((k : Int) + 1)]]) ?hres rfl ?hpost
                case hpost =>
                  refine parse_end ?_ (ones_bad HH.out HP.out HC.out HL.out)
                  refine Below.drew ?_
                  repeat (refine Below.setCell ?_ (by simp) _)
                  exact HZ.out
                case hres =>
                  simp [results, Tryz.results11, go_sem, c0, c1, c2, c3, c4, c5, c6, c7, d0, d1]
      · have hke : k = n := by omega
        subst hke
        rw [HE.out.1] at hp
        obtain ⟨va, vc, vs, B1, hr⟩ := hinv.rd
        obtain ⟨c0, c1, c2, c3, c4, c5, c6, c7, d0, d1, fr1, fr2⟩ := hinv.res.ends
        obtain ⟨a5, l5, rfl⟩ := own_shape hr.cho
        obtain ⟨a4, l4, rfl⟩ := own_shape hr.cli
        have e0 := hr.cell 0 (u := .int .i64 s.nodes) rfl
        have e1 := hr.cell 1 (u := .int .i64 s.replicas) rfl
        have e2 := hr.cell 2 (u := .int .i64 s.block) rfl
        have e3 := hr.cell 3 (u := .int .i64 s.room) rfl
        have e4 := hr.cell 4 (u := .slice a4 s.acts.length l4) rfl
        have e5 := hr.cell 5 (u := .slice a5 s.choices.length l5) rfl
        have e6 := hr.cell 6 (u := .int .i64 s.rounds) rfl
        have e7 := hr.cell 7 (u := .bool s.flips) rfl
        have HK := Lib.hid (show Kept w.heap.size wr wr from ⟨Fr.refl _ _, ⟨_, _, hinv.r1⟩, ⟨_, _, hinv.r2⟩, rfl⟩)
        have HS := Lib.hid (show ScriptIs (w.heap.size + 1 + 1) wr s (.slice a4 s.acts.length l4) (.slice a5 s.choices.length l5) vs B1 from ⟨hr.cho, hr.cli, hr.all, hr.le⟩)
        have HB := Lib.hid hinv.below
        have HP := Lib.hid (show (s, 0, 0) = P from hp)
        clear hp hr hinv
        go_wp2_with fail
        refine bodyPost_ret (v := .tuple #[.agg #[.int .i64 s.nodes, .int .i64 s.replicas, .int .i64 s.block, .int .i64 s.room, .slice a4 s.acts.length l4, .slice a5 s.choices.length l5, .int .i64 s.rounds, .bool s.flips], .agg #[.int .i64 0, .int .i64 0]]) ?hres rfl ?hpost
        case hpost =>
          refine parse_done (wr := wr) ?_ HP.out ?_ HS.out
          · iterate 10 (refine Below.setCell ?_ (by simp) _)
            exact HB.out
          · refine Kept.set2 ?_ _ _
            refine Kept.set2 ?_ _ _
            refine Kept.set1 ?_ _ _
            refine Kept.set1 ?_ _ _
            refine Kept.set1 ?_ _ _
            refine Kept.set1 ?_ _ _
            refine Kept.set1 ?_ _ _
            refine Kept.set1 ?_ _ _
            refine Kept.set1 ?_ _ _
            refine Kept.set1 ?_ _ _
            exact HK.out
        case hres =>
          simp [results, Tryz.results11, go_sem, c0, c1, c2, c3, c4, c5, c6, c7, d0, d1])
end Go.Proofs.YtmkmkccdlopogaaGreatDoor.Con
