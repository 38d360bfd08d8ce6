/- The reader: where a setting lies. -/
import Derived.Test.YtmkmkccdlopogaaGreatDoorProg
import Derived.Test.YtmkmkccdlopogaaGreatDoorConL
set_option linter.unusedVariables false
set_option linter.unusedSimpArgs false
namespace Go.Proofs.YtmkmkccdlopogaaGreatDoor.Con
open Go.RowKit

/-- the place of the number that a word sets -/
def setOff (w : B) : Option Nat :=
  if w = wNodes then some 0 else if w = wReplicas then some 1 else if w = wBlock then some 2 else if w = wRoom then some 3 else if w = wRounds then some 6 else none

set_option maxRecDepth 100000 in
set_option maxHeartbeats 1000000 in
theorem setting_any (r : Nat) (word : ByteArray) (w : World) :
    Calls Tryz.prog 37 #[.pointer (some ⟨r, 0, none⟩), .string word] w fun e w' => e = .returned (.pointer ((setOff word.data.toList).map fun o => ⟨r, o, none⟩)) ∧ w' = w := by
  go_enter Tryz.func37, Tryz.ntmps37
  go_wp2
  all_goals go_ret
  all_goals refine ⟨?_, rfl⟩
  all_goals simp_all [setOff, wNodes, wReplicas, wBlock, wRoom, wRounds, Lib.toList_data]

def strs (l : List B) : List Value := l.map fun x => .string ⟨x.toArray⟩
def ints (l : List Int) : List Value := l.map (.int .i64)
def actCells (a : Act) (v : Value) : List Value := [.int .i64 a.kind, .string ⟨a.path.toArray⟩, .string ⟨a.to.toArray⟩, .string ⟨a.data.toArray⟩, .int .i64 a.quota, .string ⟨a.job.program.toArray⟩, .string ⟨a.job.output.toArray⟩, v, .int .i64 a.job.parts, .int .i64 a.job.split, .int .i64 a.job.spill]

/-- these cells are these acts -/
def ActsAt (w : World) (B0 : Nat) : List Act → List Value → Prop
  | [], cs => cs = []
  | a :: l, cs => ∃ v rest, cs = actCells a v ++ rest ∧ w.ownsRow B0 9 1 v a.job.inputs.length (strs a.job.inputs) ∧ ActsAt w B0 l rest

def ClientAt (w : World) (B0 : Nat) (v : Value) (l : List Act) : Prop := ∃ cs, w.ownsRow B0 51 11 v l.length cs ∧ ActsAt w B0 l cs

/-- the clients but the last: their rows lie below B1 -/
def InitC (w : World) (B0 B1 : Nat) : List Value → List (List Act) → Prop
  | [], [] => True
  | v :: vs, l :: ls => ClientAt w B0 v l ∧ (∀ g, v.ownBlock = some g → g < B1) ∧ InitC w B0 B1 vs ls
  | _, _ => False
/-- the clients: the last's row lies behind B1 -/
def CliAt (w : World) (B0 B1 : Nat) (vs : List Value) (ls : List (List Act)) : Prop :=
  (vs = [] ∧ ls = []) ∨ ∃ vi vl li ll, vs = vi ++ [vl] ∧ ls = li ++ [ll] ∧ InitC w B0 B1 vi li ∧ (∃ cs, w.ownsRow B1 51 11 vl ll.length cs ∧ ActsAt w B0 ll cs) ∧ B0 ≤ B1

def rcells (s : Script) (va vc : Value) : Array Value := #[.int .i64 s.nodes, .int .i64 s.replicas, .int .i64 s.block, .int .i64 s.room, va, vc, .int .i64 s.rounds, .bool s.flips]

/-- a reader lies at block r and holds this script -/
structure ReaderIs (B0 : Nat) (w : World) (r : Nat) (s : Script) (va vc : Value) (vs : List Value) (B1 : Nat) : Prop where
  ge : B0 ≤ r
  obj : w.heap[r]? = some (.cells (rcells s va vc) 75 (0, 0))
  cho : w.ownsRow B0 3 1 vc s.choices.length (ints s.choices)
  cli : w.ownsRow B0 46 1 va s.acts.length vs
  all : CliAt w B0 B1 vs s.acts
  le : B1 ≤ w.heap.size
def ReaderAt (B0 : Nat) (w : World) (r : Nat) (s : Script) : Prop := ∃ va vc vs B1, ReaderIs B0 w r s va vc vs B1

theorem ActsAt.imp {w w' : World} {B0 : Nat} (h : ∀ v n xs, w.ownsRow B0 9 1 v n xs → w'.ownsRow B0 9 1 v n xs) : ∀ {l : List Act} {cs : List Value}, ActsAt w B0 l cs → ActsAt w' B0 l cs
  | [], _, k => k
  | _ :: _, _, ⟨v, rest, e, k1, k2⟩ => ⟨v, rest, e, h _ _ _ k1, ActsAt.imp h k2⟩
theorem InitC.imp {w w' : World} {B0 B1 : Nat} (h : ∀ v n xs, w.ownsRow B0 9 1 v n xs → w'.ownsRow B0 9 1 v n xs)
    (h2 : ∀ v n xs, (∀ g, v.ownBlock = some g → g < B1) → w.ownsRow B0 51 11 v n xs → w'.ownsRow B0 51 11 v n xs) : ∀ {vs : List Value} {ls : List (List Act)}, InitC w B0 B1 vs ls → InitC w' B0 B1 vs ls
  | [], [], _ => trivial
  | _ :: _, _ :: _, ⟨⟨cs, k1, k2⟩, k3, k4⟩ => ⟨⟨cs, h2 _ _ _ k3 k1, k2.imp h⟩, k3, InitC.imp h h2 k4⟩
theorem CliAt.imp {w w' : World} {B0 B1 : Nat} (h : ∀ v n xs, w.ownsRow B0 9 1 v n xs → w'.ownsRow B0 9 1 v n xs)
    (h2 : ∀ b v n xs, w.ownsRow b 51 11 v n xs → w'.ownsRow b 51 11 v n xs) {vs : List Value} {ls : List (List Act)} : CliAt w B0 B1 vs ls → CliAt w' B0 B1 vs ls
  | .inl k => .inl k
  | .inr ⟨vi, vl, li, ll, e1, e2, k1, ⟨cs, k2, k3⟩, k4⟩ => .inr ⟨vi, vl, li, ll, e1, e2, k1.imp h (fun v n xs _ => h2 _ v n xs), ⟨cs, h2 _ _ _ _ k2, k3.imp h⟩, k4⟩
theorem ReaderIs.imp {B0 B1 : Nat} {w w' : World} {r : Nat} {s : Script} {va vc : Value} {vs : List Value} (h : ReaderIs B0 w r s va vc vs B1) (ho : w'.heap[r]? = w.heap[r]?) (k : ∀ b e size v n xs, w.ownsRow b e size v n xs → w'.ownsRow b e size v n xs) (hs : w.heap.size ≤ w'.heap.size) : ReaderIs B0 w' r s va vc vs B1 :=
  ⟨h.ge, ho.trans h.obj, k _ _ _ _ _ _ h.cho, k _ _ _ _ _ _ h.cli, h.all.imp (k _ 9 1) (fun b => k b 51 11), Nat.le_trans h.le hs⟩
theorem ReaderIs.lt {B0 B1 : Nat} {w : World} {r : Nat} {s : Script} {va vc : Value} {vs : List Value} (h : ReaderIs B0 w r s va vc vs B1) : r < w.heap.size := (Array.getElem?_eq_some_iff.1 h.obj).1
theorem ReaderIs.below {B0 B1 : Nat} {w w' : World} {r : Nat} {s : Script} {va vc : Value} {vs : List Value} (h : ReaderIs B0 w r s va vc vs B1) (hb : Below w.heap.size w w') : ReaderIs B0 w' r s va vc vs B1 :=
  h.imp (hb.block _ h.lt) (fun _ _ _ _ _ _ k => own_below k hb) hb.size
theorem ReaderAt.below {B0 : Nat} {w w' : World} {r : Nat} {s : Script} (h : ReaderAt B0 w r s) (hb : Below w.heap.size w w') : ReaderAt B0 w' r s := by
  obtain ⟨va, vc, vs, B1, h⟩ := h
  exact ⟨va, vc, vs, B1, h.below hb⟩

/-- nothing but rows of types T and the block r has changed -/
theorem CliAt.fr {w w' : World} {B0 B1 : Nat} {vs : List Value} {ls : List (List Act)} (h : CliAt w B0 B1 vs ls) {T : List Nat} (hf : Fr T w w') (h9 : 9 ∉ T) (h51 : 51 ∉ T) : CliAt w' B0 B1 vs ls :=
  h.imp (fun _ _ _ k => own_fr k hf h9) (fun _ _ _ _ k => own_fr k hf h51)
theorem heap_set {w : World} {r : Nat} {c : Array Value} {t : Nat} {fz : Nat × Nat} (h : w.heap[r]? = some (.cells c t fz)) (o : Nat) (v : Value) : (w.setCell ⟨r, o, none⟩ v).heap[r]? = some (.cells (c.set! o v) t fz) := by
  have hlt : r < w.heap.size := (Array.getElem?_eq_some_iff.1 h).1
  have h' : w.heap[r] = .cells c t fz := by simpa [Array.getElem?_eq_getElem hlt] using h
  show (w.heap.modify r _)[r]? = _
  rw [Array.getElem?_eq_getElem (by simpa using hlt), Array.getElem_modify_self, h']
  rfl
theorem size_set (w : World) (a : Addr) (v : Value) : (w.setCell a v).heap.size = w.heap.size := by
  show (w.heap.modify _ _).size = _
  simp
theorem ReaderIs.cell {B0 B1 : Nat} {w : World} {r : Nat} {s : Script} {va vc : Value} {vs : List Value} (h : ReaderIs B0 w r s va vc vs B1) (o : Nat) {u : Value} (hu : (rcells s va vc)[o]? = some u) : w.cell? ⟨r, o, none⟩ = some u := by
  simp only [World.cell?, h.obj]; exact hu
theorem ReaderIs.free {B0 B1 : Nat} {w : World} {r : Nat} {s : Script} {va vc : Value} {vs : List Value} (h : ReaderIs B0 w r s va vc vs B1) (o : Nat) : w.frozen? ⟨r, o, none⟩ = false := by
  simp [World.frozen?, h.obj]
theorem below_after {wr w' : World} (o : Obj) (hb1 : Below (wr.alloc o).heap.size (wr.alloc o) w') : Below wr.heap.size wr w' :=
  ((Below.refl _ _).alloc (Nat.le_refl _) o).trans (hb1.mono (by simp))
/-- the choices: one more; then the reader's cell -/
theorem ReaderIs.choose {B0 B1 : Nat} {w w' : World} {r : Nat} {s : Script} {va vc vc' : Value} {vs : List Value} {n : Int} (h : ReaderIs B0 w r s va vc vs B1)
    (ho : w'.ownsRow B0 3 1 vc' (s.choices.length + 1) (ints s.choices ++ [.int .i64 n])) (hf : Fr [3] w w') (hs : w.heap.size ≤ w'.heap.size) :
    ReaderIs B0 (w'.setCell ⟨r, 5, none⟩ vc') r { s with choices := s.choices ++ [n] } va vc' vs B1 := by
  have hr : w'.heap[r]? = some (.cells (rcells s va vc) 75 (0, 0)) := hf r _ h.obj (fun c t fz e => by injection e with _ e1; subst e1; decide)
  have f2 : Fr [75] w' (w'.setCell ⟨r, 5, none⟩ vc') := (Fr.refl _ _).setCell _ _ hr (by decide)
  have f3 : Fr [3, 75] w (w'.setCell ⟨r, 5, none⟩ vc') := (hf.mono (by simp)).trans (f2.mono (by simp))
  refine ⟨h.ge, heap_set hr 5 vc', ?_, own_fr h.cli f3 (by decide), h.all.fr f3 (by decide) (by decide), Nat.le_trans h.le (Nat.le_trans hs (by rw [size_set]; exact Nat.le_refl _))⟩
  simpa [ints] using own_fr ho f2 (by decide)

/-- a slice of fields -/
def FieldsAt (w : World) (v : Value) (fs : List Field) : Prop :=
  ∃ a c, v = .slice a fs.length c ∧ fs.length ≤ c ∧ (fs ≠ [] → ∃ g o cur fz, a = some ⟨g, o, none⟩ ∧ w.heap[g]? = some (.cells cur 95 fz) ∧ ∀ j u, (fcells fs)[j]? = some u → cur[o + j]? = some u)
theorem FieldsAt.below {w w' : World} {v : Value} {fs : List Field} (h : FieldsAt w v fs) (hb : Below w.heap.size w w') : FieldsAt w' v fs := by
  obtain ⟨a, c, e, hc, k⟩ := h
  refine ⟨a, c, e, hc, fun hn => ?_⟩
  obtain ⟨g, o, cur, fz, ea, eg, ec⟩ := k hn
  exact ⟨g, o, cur, fz, ea, by rw [hb.block g (Array.getElem?_eq_some_iff.1 eg).1]; exact eg, ec⟩
theorem FieldsAt.fr {w w' : World} {v : Value} {fs : List Field} (h : FieldsAt w v fs) {T : List Nat} (hf : Fr T w w') (ht : 95 ∉ T) : FieldsAt w' v fs := by
  obtain ⟨a, c, e, hc, k⟩ := h
  refine ⟨a, c, e, hc, fun hn => ?_⟩
  obtain ⟨g, o, cur, fz, ea, eg, ec⟩ := k hn
  exact ⟨g, o, cur, fz, ea, hf g _ eg (fun c t fz e hm => by injection e with _ e1 _; subst e1; exact ht hm), ec⟩
/-- the cells of the i-th field -/
theorem fc_at : ∀ (fs : List Field) (i : Nat) (h : i < fs.length), (fcells fs)[i * 2]? = some (.string ⟨fs[i].text.toArray⟩) ∧ (fcells fs)[i * 2 + 1]? = some (.bool fs[i].quoted)
  | f :: fs, 0, _ => ⟨rfl, rfl⟩
  | f :: fs, i + 1, h => by
    have := fc_at fs i (by simpa using h)
    simpa [fcells, Nat.add_mul] using this
theorem FieldsAt.cells {w : World} {v : Value} {fs : List Field} (h : FieldsAt w v fs) (hn : fs ≠ []) : ∃ g o c, v = .slice (some ⟨g, o, none⟩) fs.length c ∧ fs.length ≤ c ∧
    ∀ i (h : i < fs.length), w.cell? ⟨g, o + i * 2, none⟩ = some (.string ⟨fs[i].text.toArray⟩) ∧ w.cell? ⟨g, o + i * 2 + 1, none⟩ = some (.bool fs[i].quoted) := by
  obtain ⟨a, c, e, hc, k⟩ := h
  obtain ⟨g, o, cur, fz, ea, eg, ec⟩ := k hn
  refine ⟨g, o, c, by rw [e, ea], hc, fun i hi => ?_⟩
  have := fc_at fs i hi
  constructor
  · simp only [World.cell?, eg]; exact ec _ _ this.1
  · simp only [World.cell?, eg, Nat.add_assoc]; exact ec _ _ this.2
theorem FieldsAt.of_own {w : World} {B0 : Nat} {v : Value} {fs : List Field} (h : w.ownsRow B0 95 2 v fs.length (fcells fs)) : FieldsAt w v fs := by
  rcases h.2 with ⟨rfl, h1⟩ | ⟨g, cap, cur, rfl, hB, hg, hc⟩
  · have : fs = [] := List.length_eq_zero_iff.1 h1
    subst this
    exact ⟨none, 0, rfl, Nat.le_refl _, fun h => absurd rfl h⟩
  · refine ⟨_, cap, rfl, hc.1, fun _ => ⟨g, 0, cur, _, rfl, hg, fun j u hj => ?_⟩⟩
    have e := hc.2.2.2
    rw [← e, List.getElem?_take] at hj
    split at hj
    · simpa using hj
    · cases hj
end Go.Proofs.YtmkmkccdlopogaaGreatDoor.Con
