/- Words for Show: the script under way, a line written. -/
import Derived.Test.YtmkmkccdlopogaaGreatDoorProg
import Derived.Test.YtmkmkccdlopogaaGreatDoorConFb
import Derived.Test.YtmkmkccdlopogaaGreatDoorConX
set_option linter.unusedVariables false
set_option linter.unusedSimpArgs false
namespace Go.Proofs.YtmkmkccdlopogaaGreatDoor.Con
open Go.RowKit

theorem join_eq : ∀ l : List B, Lib.join l [32] = joinB l
  | [] => rfl
  | [x] => by simp [Lib.join, joinB]
  | x :: y :: l => by
    have := join_eq (y :: l)
    rw [joinB, ← this]
    simp [Lib.join, List.intercalate, List.intersperse]
def outOf (ls : List (List B)) : B := ls.flatMap fun l => joinB l ++ [10]
theorem outOf_snoc (ls : List (List B)) (l : List B) : outOf (ls ++ [l]) = outOf ls ++ (joinB l ++ [10]) := by simp [outOf]
theorem outOf_app (a b : List (List B)) : outOf (a ++ b) = outOf a ++ outOf b := by simp [outOf]
theorem showS_out (s : Script) : showS s = outOf (showLines s) := rfl

/-- the text under way: the script's box at the first new block, the Builder at the next -/
structure SI (w : World) (s : Script) (va vc : Value) (pre post : List (List B)) (wr : World) : Prop where
  below : Below w.heap.size w wr
  box : wr.heap[w.heap.size]? = some (.cells (rcells s va vc) 28 (0, 0))
  bld : Lib.IsBuilderF 60 5 w.heap.size (w.heap.size + 1) (Lib.byteCells (outOf pre)) wr
  all : showLines s = pre ++ post
theorem bldF_below {B b : Nat} {bs : List Value} {w w' : World} (h : Lib.IsBuilderF 60 5 B b bs w) (hb : Below w.heap.size w w') : Lib.IsBuilderF 60 5 B b bs w' := by
  have key : ∀ p, Lib.BuilderAtF 60 5 B b p bs w → Lib.BuilderAtF 60 5 B b p bs w' := fun p ⟨hB, v, hbk, hown, hne⟩ =>
    ⟨hB, v, by rw [hb.block _ (Array.getElem?_eq_some_iff.1 hbk).1]; exact hbk, ownF_keep hown (fun g hg => hb.block g hg), hne⟩
  exact h.elim (fun x => .inl (key _ x)) (fun x => .inr (key _ x))
theorem SI.up {w wr w' : World} {s : Script} {va vc : Value} {pre post : List (List B)} (h : SI w s va vc pre post wr) (hb : Below wr.heap.size wr w') : SI w s va vc pre post w' :=
  ⟨h.below.trans (hb.mono h.below.size), by rw [hb.block _ (Array.getElem?_eq_some_iff.1 h.box).1]; exact h.box, bldF_below h.bld hb, h.all⟩
theorem SI.cell {w wr : World} {s : Script} {va vc : Value} {pre post : List (List B)} (h : SI w s va vc pre post wr) (j : Nat) {u : Value} (hu : (rcells s va vc)[j]? = some u) : wr.cell? ⟨w.heap.size, j, none⟩ = some u := by
  simp only [World.cell?, h.box]; exact hu

theorem fresh_strs (w : World) (B0 : Nat) (ts : List B) (hB : B0 ≤ w.heap.size) (hn : ts.length ≤ 1048576) : (w.alloc (.cells (strs ts).toArray 9)).ownsRow B0 9 1 (.slice (some ⟨w.heap.size, 0, none⟩) ts.length ts.length) ts.length (strs ts) :=
  ⟨by simp [strs], .inr ⟨w.heap.size, ts.length, (strs ts).toArray, rfl, hB, heap_alloc_new _ _, Nat.le_refl _, by unfold maxLen; omega, by simp [strs], by rw [List.take_of_length_le (by simp [strs])]⟩⟩

set_option maxRecDepth 100000 in
set_option maxHeartbeats 1000000 in
/-- a line is written -/
theorem line_out {w wr : World} {s : Script} {va vc : Value} {pre post : List (List B)} {l : List B} (h : SI w s va vc pre (l :: post) wr) {B0 n : Nat} {a : Option Addr} {c : Nat} (hrow : wr.ownsRow B0 9 1 (.slice a n c) n (strs l)) (hn : 0 < n) (hn2 : n ≤ 4398046511104)
    (hlen : (showS s).length ≤ 70368744177664) :
    Calls Tryz.prog 12 #[.slice a n c, .pointer (some ⟨w.heap.size + 1, 0, none⟩)] wr fun e w' => e = .returned (.tuple #[]) ∧ SI w s va vc (pre ++ [l]) post w' ∧ Fr [5, 60] wr w' := by
  obtain ⟨g, c', e, hcell⟩ := own_cell hrow hn
  injection e with e1 _ e2
  subst e1 e2
  have hll : l.length = n := by simpa [strs] using hrow.1
  have hgl : g < wr.heap.size := (hrow.lt g rfl).2
  have hcap : n ≤ c := by
    rcases hrow.2 with ⟨e, _⟩ | ⟨g', cap, cur, e, hB, hg, hnc, _⟩
    · cases e
    · injection e with _ _ e3; omega
  have hout : showS s = outOf pre ++ (joinB l ++ [10]) ++ outOf post := by
    rw [showS_out, h.all]
    have : pre ++ l :: post = (pre ++ [l]) ++ post := by simp
    rw [this, outOf_app, outOf_snoc]
  have hl2 : (outOf pre).length + ((joinB l).length + 1) ≤ 70368744177664 := by
    rw [hout] at hlen
    simp only [List.length_append, List.length_cons, List.length_nil] at hlen
    omega
  have hjoin : (Lib.join ((l.map fun x => (⟨x.toArray⟩ : ByteArray)).map (·.data.toList)) (⟨#[32]⟩ : ByteArray).data.toList) = joinB l := by
    rw [List.map_map]
    have : (fun x : ByteArray => x.data.toList) ∘ (fun x : B => (⟨x.toArray⟩ : ByteArray)) = id := by funext x; simp
    rw [this, List.map_id]
    exact join_eq l
  have hJ := Tryz.strings_Join g 0 c (l.map fun x => (⟨x.toArray⟩ : ByteArray)) ⟨#[32]⟩ wr (fun j x hx => by
      rw [List.getElem?_map, Option.map_eq_some_iff] at hx
      obtain ⟨y, hy, rfl⟩ := hx
      have := hcell j (.string ⟨y.toArray⟩) (by simp [strs, hy])
      simpa using this) hgl (by rw [List.length_map]; omega) (by rw [List.length_map]; omega) (by rw [hjoin]; omega)
  rw [hjoin, List.length_map, hll] at hJ
  have HJ := Lib.hid hJ
  have HS := Lib.hid h
  clear hJ hjoin hout h hcell hrow
  go_enter Tryz.func12, Tryz.ntmps12
  go_wp2_with fail
  refine HJ.out.mono ?_
  rintro e w1 ⟨rfl, hb1⟩
  go_wp2_with fail
  have h1 := HS.out.up hb1
  have hl3 : (joinB l).length + 1 = (({ data := List.toArray (joinB l) } ++ { data := #[10] } : ByteArray)).size := by simp [ByteArray.size]
  refine (Tryz.Builder_WriteString_k w.heap.size (w.heap.size + 1) _ _ w1 h1.bld (by rw [bc_len, ← hl3]; omega) h1.below.size).mono ?_
  rintro e w2 ⟨rfl, hbd, hb2, hk2⟩
  have HK := Lib.hid (And.intro hbd (And.intro hb2 hk2))
  clear hbd hb2 hk2 hl3
  go_wp2_with fail
  go_end0
  obtain ⟨hbd, hb2, hk2⟩ := HK.out
  have hbl : Typed w1 (w.heap.size + 1) 60 := by
    rcases h1.bld with ⟨_, v, hb, _⟩ | ⟨_, v, hb, _⟩
    · exact ⟨_, _, hb⟩
    · exact ⟨_, _, hb⟩
  obtain ⟨cb, fzb, hcb⟩ := hbl
  have hf2 : Fr [5, 60] w1 w2 := (Fr.refl [5, 60] w1).others hk2 (by simp) hcb (by simp)
  refine ⟨rfl, ⟨h1.below.trans hb2, ?_, ?_, ?_⟩, (Fr.of_below hb1).trans hf2⟩
  · exact hf2 _ _ h1.box (fun c t fz e => by injection e with _ e1; subst e1; decide)
  · rw [outOf_snoc, bc_app]
    have e : Lib.strCells ({ data := List.toArray (joinB l) } ++ { data := #[10] } : ByteArray) = Lib.byteCells (joinB l ++ [10]) := by
      simp [Lib.strCells, Lib.byteCells]
    rw [← e]
    exact .inr hbd
  · rw [HS.out.all]; simp
end Go.Proofs.YtmkmkccdlopogaaGreatDoor.Con
