/- The walk of (*reader).choose. -/
import Derived.Test.YtmkmkccdlopogaaGreatDoorProg
import Derived.Test.YtmkmkccdlopogaaGreatDoorConM
import Derived.Test.YtmkmkccdlopogaaGreatDoorConI
set_option linter.unusedVariables false
set_option linter.unusedSimpArgs false
namespace Go.Proofs.YtmkmkccdlopogaaGreatDoor.Con
open Go.RowKit

theorem info3 : (Tryz.prog.info? 3).map (fun i => (i.zero, i.size, i.bytes)) = some (some (.int .i64 0), 1, 8) := by kernel_rfl

def withChoices (s : Script) (l : List Int) : Script := { s with choices := s.choices ++ l }

def chooseS (s : Script) (fs : List Field) : Except Int Script :=
  match fs, nums fs with
  | _ :: _, some l => .ok (withChoices s l)
  | _, _ => .error 2

/-- the types of the rows that a line may write -/
abbrev TL : List Nat := [3, 46, 51, 75]
theorem Fr.of_below {T : List Nat} {w w' : World} (h : Below w.heap.size w w') : Fr T w w' := (Fr.refl T w).below h
/-- the post of a method that reads a line: the reader, or an error -/
def LinePost (B0 : Nat) (w : World) (r : Nat) (o : Except Int Script) (e : Ending) (w' : World) : Prop :=
  Below B0 w w' ∧ Fr TL w w' ∧ match o with
    | .ok s => e = .returned .nilIface ∧ ReaderAt B0 w' r s
    | .error c => ∃ b, e = .returned (.iface 82 (.pointer (some ⟨b, 0, none⟩))) ∧ B0 ≤ b ∧ w'.heap[b]? = some (.cells #[.int .i64 c, .int .i64 0] 40 (0, 0))

theorem chooseS_none (s : Script) (fs : List Field) (h : nums fs = none) : chooseS s fs = .error 2 := by
  unfold chooseS
  rw [h]
  cases fs <;> rfl
theorem nums_app : ∀ (l : List Field) (f : Field) (r : List Int) (n : Int), nums l = some r → number f = some n → nums (l ++ [f]) = some (r ++ [n])
  | [], f, r, n, h, h2 => by simp [nums] at h; subst h; simp [nums, h2]
  | g :: l, f, r, n, h, h2 => by
    simp only [nums] at h
    cases hg : number g with
    | none => simp [hg] at h
    | some x =>
      cases hl : nums l with
      | none => simp [hg, hl] at h
      | some y =>
        simp [hg, hl] at h
        have := nums_app l f y n hl h2
        simp [nums, hg, this, ← h]
theorem nums_none : ∀ (l : List Field) (f : Field), f ∈ l → number f = none → nums l = none
  | g :: l, f, h, h2 => by
    simp only [nums]
    cases hg : number g with
    | none => rfl
    | some x =>
      have hm : f ∈ l := by
        cases h with
        | head => rw [hg] at h2; cases h2
        | tail _ h => exact h
      rw [nums_none l f hm h2]

theorem number_none (f : Field) (hl : f.text.length ≤ 1048576) (h : number f = none) (w : World) :
    Calls Tryz.prog 38 #[.agg #[.string ⟨f.text.toArray⟩, .bool f.quoted]] w fun e w' => e = .returned (.tuple #[.int .i64 0, .bool false]) ∧ Below w.heap.size w w' := by
  have := number_any ⟨f.text.toArray⟩ f.quoted w (by simpa [ByteArray.size] using hl)
  rwa [show (⟨(⟨f.text.toArray⟩ : ByteArray).data.toList, f.quoted⟩ : Field) = f from rfl, h] at this
theorem number_some (f : Field) (hl : f.text.length ≤ 1048576) (n : Int) (h : number f = some n) (w : World) :
    Calls Tryz.prog 38 #[.agg #[.string ⟨f.text.toArray⟩, .bool f.quoted]] w fun e w' => e = .returned (.tuple #[.int .i64 n, .bool true]) ∧ Below w.heap.size w w' := by
  have := number_any ⟨f.text.toArray⟩ f.quoted w (by simpa [ByteArray.size] using hl)
  rwa [show (⟨(⟨f.text.toArray⟩ : ByteArray).data.toList, f.quoted⟩ : Field) = f from rfl, h] at this

theorem line_err {B0 r : Nat} {w w1 : World} {o : Except Int Script} {c : Int} (hb : Below B0 w w1) (hf : Fr TL w w1) (hB : B0 ≤ w1.heap.size) (h : o = .error c) :
    LinePost B0 w r o (.returned (.iface 82 (.pointer (some ⟨w1.heap.size, 0, none⟩)))) (w1.alloc (.cells #[.int .i64 c, .int .i64 0] 40)) := by
  subst h
  refine ⟨hb.alloc hB _, hf.alloc _, w1.heap.size, rfl, hB, ?_⟩
  show (w1.heap.push _)[w1.heap.size]? = _
  simp

set_option maxRecDepth 100000 in
set_option maxHeartbeats 1000000 in
theorem choose_any (B0 r : Nat) (s : Script) (fv : Value) (fs : List Field) (w : World) (hr : ReaderAt B0 w r s) (hf : FieldsAt w fv fs) (hn : fs.length ≤ 1048576) (hc : s.choices.length + fs.length ≤ 4398046511104)
    (ht : ∀ f ∈ fs, f.text.length ≤ 1048576) (hB : B0 ≤ w.heap.size) :
    Calls Tryz.prog 39 #[.pointer (some ⟨r, 0, none⟩), fv] w (LinePost B0 w r (chooseS s fs)) := by
  have hf0 := hf
  obtain ⟨a, c, rfl, hcap, -⟩ := hf
  go_enter Tryz.func39, Tryz.ntmps39
  go_wp2_with fail
  go_loopw [11] (fun i wr => ∃ (k : Nat) (l : List Int), i = .int .i64 k ∧ k ≤ fs.length ∧ Below B0 w wr ∧ B0 ≤ wr.heap.size ∧ ReaderAt B0 wr r (withChoices s l) ∧ FieldsAt wr (.slice a fs.length c) fs ∧ l.length = k ∧ nums (fs.take k) = some l ∧ Fr TL w wr) (fun i _ => fs.length - (intOf i).toNat)
  case atStart => exact ⟨0, [], rfl, Nat.zero_le _, Below.refl _ _, hB, by simpa [withChoices] using hr, hf0, rfl, rfl, Fr.refl _ _⟩
  case round =>
    clear hr hf0 hB
    obtain ⟨k, l, rfl, hk, hb, hB, ⟨va, vc, vs, B1, hr⟩, hf, hl, hnum, hFr⟩ := hrel
    by_cases hlt : k < fs.length
    · have hne : fs ≠ [] := by intro e; subst e; simp at hlt
      obtain ⟨g, o, c', e, hcap', hcel⟩ := hf.cells hne
      injection e with e1 _ e2
      subst e1 e2
      obtain ⟨h1, h2⟩ := hcel k hlt
      have hro := hr.obj
      have hch := hr.cho
      have htl := ht fs[k] (List.getElem_mem hlt)
      cases hnk : number fs[k] with
      | none =>
        have HN := Lib.hid hnk
        clear hnk
        go_wp2_with (first | (go_at_call 38; (with_reducible refine (number_none fs[k] htl HN.out _).mono ?_); rintro e w' ⟨rfl, hb1⟩) | (go_at_call 35; (with_reducible refine (wrong_any _ _).mono ?_); rintro e w2 ⟨rfl, rfl⟩))
        go_ret
        have hb2 := below_after _ hb1
        refine line_err (hb.trans (hb2.mono hB)) (hFr.below hb2) (Nat.le_trans hB hb2.size) ?_
        exact chooseS_none s fs (nums_none fs fs[k] (List.getElem_mem hlt) HN.out)
      | some n =>
        have HN := Lib.hid hnk
        clear hnk
        go_wp2_with (first | (go_at_call 38; (with_reducible refine (number_some fs[k] htl n HN.out _).mono ?_); rintro e w' ⟨rfl, hb1⟩; have hb2 := below_after _ hb1; have hr1 := hr.below hb2; have hc5 := hr1.cell 5 (u := vc) rfl; have ho5 := hr1.cho; have hf5 := hr1.free 5) | (at_builtin; refine wp_app2 rfl _ _ 24 rfl B0 (.int .i64 0) 1 8 Tryz.underlying24 info3 rfl (by decide) _ _ _ rfl ho5 rfl rfl ?c2 ?c3 ?c5 ?c4 ?_))
        case c2 => simp [Value.oneCell']
        case c3 => simp only [withChoices, List.length_append]; omega
        case c5 => simp only [withChoices, List.length_append]; omega
        case c4 => exact Nat.le_trans hB hb2.size
        intro v' w2 ho2 hb3 hf3
        obtain ⟨va', vn', rfl⟩ := own_shape ho2
        have hro2 : w2.heap[r]? = some (.cells (rcells (withChoices s l) va vc) 75 (0, 0)) := hf3 r _ hr1.obj (fun c t fz e => by injection e with _ e1; subst e1; decide)
        have hc6 : w2.cell? ⟨r, 5, none⟩ = some vc := by simp only [World.cell?, hro2]; rfl
        have hf6 : w2.frozen? ⟨r, 5, none⟩ = false := by simp [World.frozen?, hro2]
        go_wp2_with fail
        go_roundw
        case rel =>
          have hr3 := hr1.choose (n := n) ho2 hf3 hb3.size
          refine ⟨k + 1, l ++ [n], by go_num, hlt, hb.trans (((hb2.mono hB).trans hb3).setCell hr1.ge _), ?_, ⟨va, .slice va' ((withChoices s l).choices.length + 1) vn', vs, B1, ?_⟩, (hf.below hb2).fr ((hf3.mono (T' := [3, 75]) (by simp)).trans (((Fr.refl _ _).setCell _ _ hro2 (by decide)))) (by decide), by simp [hl], ?_, ((hFr.below hb2).trans (hf3.mono (by simp))).setCell _ _ hro2 (by decide)⟩
          · rw [size_set]; exact Nat.le_trans hB (Nat.le_trans hb2.size hb3.size)
          · have e : withChoices s (l ++ [n]) = { withChoices s l with choices := (withChoices s l).choices ++ [n] } := by simp [withChoices]
            rw [e]; exact hr3
          · rw [List.take_succ_eq_append_getElem hlt]; exact nums_app _ _ _ _ hnum HN.out
        case measure => simp [intOf]; omega
    · have hke : k = fs.length := by omega
      subst hke
      by_cases hz : fs.length = 0
      · have t0 : ((fs.length : Int) == 0) = true := by simp [hz]
        go_wp2_with (go_at_call 35; (with_reducible refine (wrong_any _ _).mono ?_); rintro e w2 ⟨rfl, rfl⟩)
        go_ret
        have := List.length_eq_zero_iff.1 hz
        subst this
        exact line_err hb hFr hB rfl
      · have t0 : ((fs.length : Int) == 0) = false := by rw [beq_eq_false_iff_ne]; omega
        go_wp2_with fail
        go_ret
        refine ⟨hb, hFr, ?_⟩
        have e : chooseS s fs = .ok (withChoices s l) := by
          rw [List.take_length] at hnum
          unfold chooseS
          rw [hnum]
          cases fs with
          | nil => simp at hz
          | cons => rfl
        rw [e]
        exact ⟨rfl, va, vc, vs, B1, hr⟩
end Go.Proofs.YtmkmkccdlopogaaGreatDoor.Con
