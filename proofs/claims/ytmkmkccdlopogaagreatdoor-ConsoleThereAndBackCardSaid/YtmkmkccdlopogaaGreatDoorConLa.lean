/- The walks of speaks and of ConsoleThereAndBack. -/
import Derived.Test.YtmkmkccdlopogaaGreatDoorProg
import Derived.Test.YtmkmkccdlopogaaGreatDoorConPc
import Derived.Test.YtmkmkccdlopogaaGreatDoorConE
set_option linter.unusedVariables false
set_option linter.unusedSimpArgs false
namespace Go.Proofs.YtmkmkccdlopogaaGreatDoor.Con
open Go.RowKit

/-- what the walks ask of the package's variables -/
structure LawOK (w : World) : Prop where
  ml : ML w
  vb : VB w
  et : ET w
  tb : TB w
theorem LawOK.pos {w : World} (h : LawOK w) : 0 < w.heap.size := by have := h.et.lt; omega
theorem LawOK.below {w w' : World} (h : LawOK w) (hb : Below w.heap.size w w') : LawOK w' :=
  ⟨h.ml.below hb, h.vb.below h.pos hb, h.et.below hb, h.tb.below hb⟩
theorem parse_any (t : ByteArray) (w : World) (h : LawOK w) : Calls Tryz.prog 11 #[.string t] w (ParsePost w (parse t.data.toList)) := by
  rcases Nat.lt_or_ge 1048576 t.size with hl | hl
  · exact parse_long t w hl
  · exact parse_short t w hl h.ml h.vb h.et
/-- Parse at a text whose outcome is known -/
theorem parse_is (t : ByteArray) (w : World) (h : LawOK w) (s : Script) (c : Int) (l : Nat) (hp : parse t.data.toList = (s, c, l)) :
    Calls Tryz.prog 11 #[.string t] w fun e w' => ∃ a4 c4 a5 c5 vs B0 B1, e = .returned (.tuple #[.agg #[.int .i64 s.nodes, .int .i64 s.replicas, .int .i64 s.block, .int .i64 s.room, .slice a4 s.acts.length c4, .slice a5 s.choices.length c5, .int .i64 s.rounds, .bool s.flips], .agg #[.int .i64 c, .int .i64 l]]) ∧ Below w.heap.size w w' ∧ ScriptIs B0 w' s (.slice a4 s.acts.length c4) (.slice a5 s.choices.length c5) vs B1 := by
  refine (parse_any t w h).mono ?_
  intro e w' hq
  rw [hp] at hq
  obtain ⟨hb, va, vc, vs, B0, B1, rfl, hs⟩ := hq
  obtain ⟨a4, c4, rfl⟩ := own_shape hs.cli
  obtain ⟨a5, c5, rfl⟩ := own_shape hs.cho
  exact ⟨a4, c4, a5, c5, vs, B0, B1, rfl, hb, hs⟩

def S1 : Script := { Script.zero with nodes := 1, acts := [[{ Act.zero 1 with path := [47, 97] }]] }
theorem speak1 : parse (⟨#[110, 111, 100, 101, 115, 32, 49, 10, 99, 108, 105, 101, 110, 116, 10, 109, 107, 100, 105, 114, 32, 47, 97, 10]⟩ : ByteArray).data.toList = (S1, 0, 0) := by decide +kernel
theorem speak2 : parse (⟨#[109, 107, 100, 105, 114, 32, 47, 97, 10]⟩ : ByteArray).data.toList = (Script.zero, 3, 1) := by decide +kernel

/-- a cell under two new blocks -/
theorem cell_two {w w' : World} {p : Addr} {v : Value} (h : w.cell? p = some v) (hb : Below w.heap.size w w') : ∀ o1 o2, ((w'.alloc o1).alloc o2).cell? p = some v := fun o1 o2 =>
  cell_kept h (hb.trans ((((Below.refl _ _).alloc (Nat.le_refl _) o1).alloc (by simp) o2).mono hb.size))
theorem two_old (w : World) (o1 : Array Value) (o2 : Array Value) (t1 t2 : Nat) : (∀ j v, o1[j]? = some v → ((w.alloc (.cells o1 t1)).alloc (.cells o2 t2)).cell? ⟨w.heap.size, j, none⟩ = some v) ∧ (∀ j v, o2[j]? = some v → ((w.alloc (.cells o1 t1)).alloc (.cells o2 t2)).cell? ⟨w.heap.size + 1, j, none⟩ = some v) := by
  constructor
  · intro j v h
    have : ((w.alloc (.cells o1 t1)).alloc (.cells o2 t2)).heap[w.heap.size]? = some (.cells o1 t1 (0, 0)) := by
      rw [heap_alloc_old _ _ (by simp)]; exact heap_alloc_new _ _
    simp only [World.cell?, this]; exact h
  · intro j v h
    have h2 : ((w.alloc (.cells o1 t1)).alloc (.cells o2 t2)).heap[w.heap.size + 1]? = some (.cells o2 t2 (0, 0)) := by
      have := heap_alloc_new (w.alloc (.cells o1 t1)) (.cells o2 t2)
      simpa using this
    simp only [World.cell?, h2]; exact h
theorem below_two (w : World) (o1 o2 : Obj) : Below w.heap.size w ((w.alloc o1).alloc o2) := ((Below.refl _ _).alloc (Nat.le_refl _) o1).alloc (by simp) o2
/-- the first act of the first client -/
theorem first_act {B0 B1 : Nat} {w : World} {vc : Value} {vs : List Value} {a4 : Option Addr} {c4 : Nat} (hs : ScriptIs B0 w S1 (.slice a4 S1.acts.length c4) vc vs B1) : ∃ g4 gv cv, a4 = some ⟨g4, 0, none⟩ ∧ w.cell? ⟨g4, 0, none⟩ = some (.slice (some ⟨gv, 0, none⟩) 1 cv) ∧ w.cell? ⟨gv, 1, none⟩ = some (.string ⟨#[47, 97]⟩) := by
  obtain ⟨g4, c', e, hc⟩ := own_cell hs.cli (by decide)
  injection e with e1
  obtain ⟨v, hv, cs, hown, hacts⟩ := hs.all.at 0 (by decide)
  obtain ⟨va, hin, hcell⟩ := hacts.at 0 (by decide)
  have h4 := hc 0 v hv
  rcases hown.2 with ⟨_, h1⟩ | ⟨g, cap, cur, e, _⟩
  · cases h1
  · subst e
    refine ⟨g4, g, cap, e1, h4, ?_⟩
    have := hown.cells (g := g) rfl 1 _ (hcell 1 (.string ⟨#[47, 97]⟩) rfl)
    simpa [Addr.add] using this

set_option maxRecDepth 100000 in
set_option maxHeartbeats 2000000 in
theorem speaks_any (w : World) (h : LawOK w) : Calls Tryz.prog 6 #[] w fun e w' => e = .returned (.bool true) ∧ Below w.heap.size w w' := by
  have HO := Lib.hid h
  clear h
  go_enter Tryz.func6, Tryz.ntmps6
  go_wp2_with fail
  refine (parse_is _ _ HO.out S1 0 0 speak1).mono ?_
  rintro e w1 ⟨a4, c4, a5, c5, vs, B0, B1, rfl, hb1, hs1⟩
  obtain ⟨g4, gv, cv, rfl, x1, x2⟩ := first_act hs1
  have HB1 := Lib.hid hb1
  clear hs1
  have e1 : S1.acts.length = 1 := rfl
  have e2 : S1.choices.length = 0 := rfl
  rw [e1, e2]
  clear e1 e2
  simp only [S1, Script.zero]
  obtain ⟨o1, o2⟩ := two_old w1 #[.int .i64 1, .int .i64 0, .int .i64 0, .int .i64 0, .slice (some ⟨g4, 0, none⟩) 1 c4, .slice a5 0 c5, .int .i64 0, .bool false] #[.int .i64 0, .int .i64 0] 28 40
  have hbt := below_two w1 (.cells #[.int .i64 1, .int .i64 0, .int .i64 0, .int .i64 0, .slice (some ⟨g4, 0, none⟩) 1 c4, .slice a5 0 c5, .int .i64 0, .bool false] 28) (.cells #[.int .i64 0, .int .i64 0] 40)
  have HOO := Lib.hid (And.intro o1 (And.intro o2 hbt))
  have HX := Lib.hid (And.intro x1 x2)
  clear o1 o2 hbt x1 x2 hb1
  go_wp2_with fail
  refine (parse_is _ _ (HO.out.below (HB1.out.trans (HOO.out.2.2.mono HB1.out.size))) Script.zero 3 1 speak2).mono ?_
  rintro e w2 ⟨a4', c4', a5', c5', vs', B0', B1', rfl, hb2, -⟩
  have k0 := cell_two (HOO.out.1 0 _ rfl) hb2
  have k4 := cell_two (HOO.out.1 4 _ rfl) hb2
  have l0 := cell_two (HOO.out.2.1 0 _ rfl) hb2
  have l1 := cell_two (HOO.out.2.1 1 _ rfl) hb2
  have y1 := cell_two (cell_kept HX.out.1 HOO.out.2.2) hb2
  have y2 := cell_two (cell_kept HX.out.2 HOO.out.2.2) hb2
  have HB2 := Lib.hid (HB1.out.trans ((HOO.out.2.2.trans (hb2.mono HOO.out.2.2.size)).mono HB1.out.size))
  clear hb2
  simp only [Script.zero]
  go_wp2_with fail
  go_ret
  exact ⟨rfl, HB2.out.trans ((below_two w2 _ _).mono HB2.out.size)⟩
end Go.Proofs.YtmkmkccdlopogaaGreatDoor.Con
