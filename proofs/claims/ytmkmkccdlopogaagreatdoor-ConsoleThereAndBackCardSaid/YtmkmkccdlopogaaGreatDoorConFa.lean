/- Words for fieldsOf and Show: strconv.Itoa by its frame, the act's fields. -/
import Derived.Test.YtmkmkccdlopogaaGreatDoorProg
import Derived.Test.YtmkmkccdlopogaaGreatDoorConZ
import Derived.Test.YtmkmkccdlopogaaGreatDoorConQ
import Derived.Test.YtmkmkccdlopogaaGreatDoorWLast
set_option linter.unusedVariables false
set_option linter.unusedSimpArgs false
namespace Go.Proofs.YtmkmkccdlopogaaGreatDoor.Con
open Go.RowKit Go.Sort

def TB (w : World) : Prop := Lib.TabIs Tryz.prog w "internal/strconv.uint64pow10" .u64 Lib.pow10Tab
theorem gPow : Tryz.prog.globalNamed "internal/strconv.uint64pow10" = some 3 := by kernel_rfl
theorem TB.below {w w' : World} (h : TB w) (hb : Below w.heap.size w w') : TB w' := by
  unfold TB Lib.TabIs World.var? at h ⊢
  rw [gPow] at h ⊢
  simp only [Option.bind_some] at h ⊢
  have hlt : 3 < w.heap.size := by
    rcases Nat.lt_or_ge 3 w.heap.size with k | k
    · exact k
    · rw [Array.getElem?_eq_none k] at h; cases h
  rw [hb.block 3 hlt]
  exact h
theorem grow_below (w : World) (q : Nat) (os : Array Obj) : Below w.heap.size w (grow (w.drewN q) os) :=
  ⟨rfl, rfl, rfl, by simp [grow], fun i hi => by
    show ((w.drewN q).heap ++ os)[i]? = _
    rw [Array.getElem?_append_left (by show i < w.heap.size; omega)]
    rfl⟩
def I64 (n : Int) : Prop := -9223372036854775808 ≤ n ∧ n ≤ 9223372036854775807
theorem itoa_any (n : Int) (h : I64 n) (w : World) (ht : TB w) : Calls Tryz.prog 15 #[.int .i64 n] w fun e w' => e = .returned (.string ⟨(Lib.itoa n).toArray⟩) ∧ Below w.heap.size w w' := by
  refine (Tryz.strconv_Itoa n h.1 h.2 w ht).mono ?_
  rintro e w' ⟨rfl, k, os, rfl⟩
  exact ⟨rfl, grow_below _ _ _⟩
theorem quoteB (x : B) (hx : x.length ≤ 1048576) (w : World) : Calls Tryz.prog 31 #[.string ⟨x.toArray⟩] w fun e w' => e = .returned (.string ⟨(quote x).toArray⟩) ∧ Below w.heap.size w w' :=
  quote_any ⟨x.toArray⟩ w (by simp [ByteArray.size]; omega)

theorem cell_kept {w w' : World} {p : Addr} {v : Value} (h : w.cell? p = some v) (hb : Below w.heap.size w w') : w'.cell? p = some v := by
  have hlt : p.block < w.heap.size := by
    rcases Nat.lt_or_ge p.block w.heap.size with k | k
    · exact k
    · simp [World.cell?, Array.getElem?_eq_none k] at h
  exact (hb.cell hlt).trans h
/-- an act that can be shown -/
structure ActOK (a : Act) : Prop where
  kind : 1 ≤ a.kind ∧ a.kind < 12
  path : a.path.length ≤ 1048576
  dest : a.«to».length ≤ 1048576
  data : a.data.length ≤ 1048576
  quota : I64 a.quota
  program : a.job.program.length ≤ 1048576
  output : a.job.output.length ≤ 1048576
  inputs : a.job.inputs.length ≤ 1048576
  input : ∀ x ∈ a.job.inputs, x.length ≤ 1048576
  parts : I64 a.job.parts
  split : I64 a.job.split
  spill : I64 a.job.spill

/-- one letter's text -/
def argText (a : Act) (c : UInt8) : B := if c = 112 then quote a.path else if c = 113 then quote a.«to» else if c = 100 then quote a.data else Lib.itoa a.quota
theorem argTexts_map (a : Act) : ∀ l : B, argTexts a l = l.map (argText a)
  | [] => rfl
  | c :: l => by simp [argTexts, argText, argTexts_map a l]
/-- the submit's texts behind its word -/
def subTexts (a : Act) : List B := [quote a.path, quote a.job.output, Lib.itoa a.job.parts, Lib.itoa a.job.split, Lib.itoa a.job.spill, quote a.job.program]
theorem actTexts_eq (a : Act) (k : Nat) (p : ByteArray × ByteArray) (hk : a.kind = (k : Int)) (h0 : 1 ≤ k) (hp : vtab[k]? = some p) :
    actTexts a = p.1.data.toList :: p.2.data.toList.map (argText a) ++ (if k = 10 then subTexts a ++ a.job.inputs.map quote else []) := by
  obtain ⟨j, rfl⟩ : ∃ j, k = j + 1 := ⟨k - 1, by omega⟩
  rw [vtab_succ] at hp
  have e1 : a.kind.toNat - 1 = j := by omega
  have e2 : (a.kind = 10) = (j + 1 = 10) := by apply propext; omega
  unfold actTexts
  rw [e1]
  cases hv : verbs[j]? with
  | none => simp [hv] at hp
  | some q =>
    simp [hv] at hp
    subst hp
    have : verbs.getD j ([], []) = q := by rw [List.getD_eq_getElem?_getD, hv]; rfl
    simp only [this, argTexts_map, subTexts, e2]
/-- the table's cells -/
theorem VB.cells {w : World} (h : VB w) {k : Nat} {p : ByteArray × ByteArray} (hp : vtab[k]? = some p) : w.cell? ⟨0, k * 2, none⟩ = some (.string p.1) ∧ w.cell? ⟨0, k * 2 + 1, none⟩ = some (.string p.2) := by
  obtain ⟨t, fz, h⟩ := h
  have hk : k < 12 := by
    have := (List.getElem?_eq_some_iff.1 hp).1
    rwa [vtab_len] at this
  simp only [World.cell?, h]
  match k, hk with
  | 0, _ => cases hp; exact ⟨rfl, rfl⟩
  | 1, _ => cases hp; exact ⟨rfl, rfl⟩
  | 2, _ => cases hp; exact ⟨rfl, rfl⟩
  | 3, _ => cases hp; exact ⟨rfl, rfl⟩
  | 4, _ => cases hp; exact ⟨rfl, rfl⟩
  | 5, _ => cases hp; exact ⟨rfl, rfl⟩
  | 6, _ => cases hp; exact ⟨rfl, rfl⟩
  | 7, _ => cases hp; exact ⟨rfl, rfl⟩
  | 8, _ => cases hp; exact ⟨rfl, rfl⟩
  | 9, _ => cases hp; exact ⟨rfl, rfl⟩
  | 10, _ => cases hp; exact ⟨rfl, rfl⟩
  | 11, _ => cases hp; exact ⟨rfl, rfl⟩
  | n + 12, h => exact absurd h (by omega)
/-- the fields so far: the act's block, the verb's block, the row -/
structure FO (w : World) (a : Act) (v : Value) (p : ByteArray × ByteArray) (vo : Value) (n : Nat) (ts : List B) (wr : World) : Prop where
  below : Below w.heap.size w wr
  obj : wr.heap[w.heap.size]? = some (.cells (actCells a v).toArray 51 (0, 0))
  verb : wr.heap[w.heap.size + 1]? = some (.cells #[.string p.1, .string p.2] 86 (0, 0))
  out : wr.ownsRow w.heap.size 9 1 vo n (strs ts)
theorem FO.cell {w wr : World} {a : Act} {v vo : Value} {p : ByteArray × ByteArray} {n : Nat} {ts : List B} (h : FO w a v p vo n ts wr) (j : Nat) {u : Value} (hu : (actCells a v)[j]? = some u) : wr.cell? ⟨w.heap.size, j, none⟩ = some u := by
  simp only [World.cell?, h.obj]; simpa using hu
theorem FO.args {w wr : World} {a : Act} {v vo : Value} {p : ByteArray × ByteArray} {n : Nat} {ts : List B} (h : FO w a v p vo n ts wr) : wr.cell? ⟨w.heap.size + 1, 1, none⟩ = some (.string p.2) := by
  simp only [World.cell?, h.verb]; rfl
theorem FO.up {w wr w' : World} {a : Act} {v vo : Value} {p : ByteArray × ByteArray} {n : Nat} {ts : List B} (h : FO w a v p vo n ts wr) (hb : Below wr.heap.size wr w') : FO w a v p vo n ts w' :=
  ⟨h.below.trans (hb.mono h.below.size), by rw [hb.block _ (Array.getElem?_eq_some_iff.1 h.obj).1]; exact h.obj, by rw [hb.block _ (Array.getElem?_eq_some_iff.1 h.verb).1]; exact h.verb, own_below h.out hb⟩
theorem FO.app {w wr w' : World} {a : Act} {v vo vo' : Value} {p : ByteArray × ByteArray} {n n' : Nat} {ts ts' : List B} {xs : List Value} (h : FO w a v p vo n ts wr) (ho : w'.ownsRow w.heap.size 9 1 vo' n' xs) (e : xs = strs ts') (hb : Below w.heap.size wr w') (hf : Fr [9] wr w') : FO w a v p vo' n' ts' w' :=
  ⟨h.below.trans hb, hf _ _ h.obj (fun c t fz e => by injection e with _ e1; subst e1; decide), hf _ _ h.verb (fun c t fz e => by injection e with _ e1; subst e1; decide), by rw [← e]; exact ho⟩
theorem fresh_row (w : World) (B : Nat) (x : ByteArray) (hB : B ≤ w.heap.size) : (w.alloc (.cells #[.string x] 9)).ownsRow B 9 1 (.slice (some ⟨w.heap.size, 0, none⟩) 1 1) 1 [.string x] :=
  ⟨rfl, .inr ⟨w.heap.size, 1, #[.string x], rfl, hB, heap_alloc_new _ _, Nat.le_refl _, by unfold maxLen; omega, rfl, rfl⟩⟩
theorem strs_app (a b : List B) : strs (a ++ b) = strs a ++ strs b := by simp [strs]
theorem take_snoc' (s : ByteArray) (k : Nat) (h : k < s.size) : s.data.toList.take (k + 1) = s.data.toList.take k ++ [s[k]] := by
  rw [List.take_succ_eq_append_getElem (by simpa using h)]; rfl
end Go.Proofs.YtmkmkccdlopogaaGreatDoor.Con
