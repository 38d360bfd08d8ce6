/- The walk of fieldsOf. -/
import Derived.Test.YtmkmkccdlopogaaGreatDoorProg
import Derived.Test.YtmkmkccdlopogaaGreatDoorConFa
set_option linter.unusedVariables false
set_option linter.unusedSimpArgs false
namespace Go.Proofs.YtmkmkccdlopogaaGreatDoor.Con
open Go.RowKit
open Go.Proofs.YtmkmkccdlopogaaGreatDoorW.PrintLast (start_ take_ pure_ one_ last_ done_ norm_ goes_)

/-- what fieldsOf hands back -/
def FieldsPost (w : World) (a : Act) (e : Ending) (w' : World) : Prop := ∃ ao c, e = .returned (.slice ao (actTexts a).length c) ∧ Below w.heap.size w w' ∧ w'.ownsRow w.heap.size 9 1 (.slice ao (actTexts a).length c) (actTexts a).length (strs (actTexts a))

set_option maxRecDepth 100000 in
set_option maxHeartbeats 4000000 in
theorem fields_any (a : Act) (v : Value) (B0 : Nat) (w : World) (ha : ActOK a) (hv : VB w) (ht : TB w) (hin : w.ownsRow B0 9 1 v a.job.inputs.length (strs a.job.inputs)) (h0 : 0 < w.heap.size) :
    Calls Tryz.prog 16 #[.agg (actCells a v).toArray] w (FieldsPost w a) := by
  obtain ⟨k, hk⟩ : ∃ k : Nat, a.kind = (k : Int) := ⟨a.kind.toNat, by have := ha.kind; omega⟩
  have hk1 : 1 ≤ k ∧ k < 12 := by have := ha.kind; omega
  obtain ⟨p, hp⟩ : ∃ p, vtab[k]? = some p := ⟨vtab[k]'(by rw [vtab_len]; exact hk1.2), List.getElem?_eq_getElem _⟩
  obtain ⟨v0, v1⟩ := hv.cells hp
  have htx := actTexts_eq a k p hk hk1.1 hp
  obtain ⟨ai, ci, rfl⟩ := own_shape hin
  have K0 : (0 : Int) ≤ (k : Int) := by omega
  have K1 : (k : Int) < 12 := by omega
  have HT := Lib.hid htx
  have HP := Lib.hid hp
  have HV := Lib.hid (And.intro hv (And.intro ht hin))
  have HA := Lib.hid ha
  clear htx hp hv ht hin ha
  have hobj : (actCells a (.slice ai a.job.inputs.length ci)).toArray = #[.int .i64 (k : Int), .string ⟨a.path.toArray⟩, .string ⟨a.«to».toArray⟩, .string ⟨a.data.toArray⟩, .int .i64 a.quota, .string ⟨a.job.program.toArray⟩, .string ⟨a.job.output.toArray⟩, .slice ai a.job.inputs.length ci, .int .i64 a.job.parts, .int .i64 a.job.split, .int .i64 a.job.spill] := by simp only [actCells, hk]
  have hfo0 : FO w a (.slice ai a.job.inputs.length ci) p (.slice (some ⟨w.heap.size + 1 + 1, 0, none⟩) 1 1) 1 [p.1.data.toList] (((w.alloc (Obj.cells #[.int .i64 (k : Int), .string ⟨a.path.toArray⟩, .string ⟨a.«to».toArray⟩, .string ⟨a.data.toArray⟩, .int .i64 a.quota, .string ⟨a.job.program.toArray⟩, .string ⟨a.job.output.toArray⟩, .slice ai a.job.inputs.length ci, .int .i64 a.job.parts, .int .i64 a.job.split, .int .i64 a.job.spill] 51)).alloc (Obj.cells #[.string p.1, .string p.2] 86)).alloc (Obj.cells #[.string p.1] 9)) := by
    refine ⟨((((Below.refl _ _).alloc (Nat.le_refl _) _).alloc (by simp) _).alloc (by simp; omega) _), ?_, ?_, ?_⟩
    · rw [hobj, heap_alloc_old _ _ (by simp; omega), heap_alloc_old _ _ (by simp)]
      exact heap_alloc_new _ _
    · rw [heap_alloc_old _ _ (by simp)]
      have := heap_alloc_new (w.alloc (Obj.cells #[.int .i64 (k : Int), .string ⟨a.path.toArray⟩, .string ⟨a.«to».toArray⟩, .string ⟨a.data.toArray⟩, .int .i64 a.quota, .string ⟨a.job.program.toArray⟩, .string ⟨a.job.output.toArray⟩, .slice ai a.job.inputs.length ci, .int .i64 a.job.parts, .int .i64 a.job.split, .int .i64 a.job.spill] 51)) (Obj.cells #[.string p.1, .string p.2] 86)
      simpa using this
    · have := fresh_row ((w.alloc (Obj.cells #[.int .i64 (k : Int), .string ⟨a.path.toArray⟩, .string ⟨a.«to».toArray⟩, .string ⟨a.data.toArray⟩, .int .i64 a.quota, .string ⟨a.job.program.toArray⟩, .string ⟨a.job.output.toArray⟩, .slice ai a.job.inputs.length ci, .int .i64 a.job.parts, .int .i64 a.job.split, .int .i64 a.job.spill] 51)).alloc (Obj.cells #[.string p.1, .string p.2] 86)) w.heap.size p.1 (by simp; omega)
      simpa [strs] using this
  have H0 := Lib.hid hfo0
  have hps : p.2.size ≤ 2 ∧ (k = 10 → p.2.size = 0) := by
    have hm := List.mem_of_getElem? HP.out
    have h2 : ∀ p ∈ vtab, p.2.size ≤ 2 := by decide
    refine ⟨h2 p hm, fun e => ?_⟩
    have := verbSubmit k e _ HP.out
    rw [this]; rfl
  have hps2 := hps.1
  have HK10 := Lib.hid (And.intro hps.2 hk1)
  have HH := Lib.hid (And.intro hk hobj)
  clear hfo0 hps
  simp only [actCells, hk]
  clear hobj hk hk1
  go_enter Tryz.func16, Tryz.ntmps16
  go_wp2_with fail
  clear v0 v1
  go_loopw [4, 19] (fun vo i wr => ∃ (j : Nat) (ao : Option Addr) (c : Nat), i = .int .i64 j ∧ j ≤ p.2.size ∧ vo = .slice ao (j + 1) c ∧ FO w a (.slice ai a.job.inputs.length ci) p vo (j + 1) (p.1.data.toList :: (p.2.data.toList.take j).map (argText a)) wr) (fun _ i _ => p.2.size - (intOf i).toNat)
  case atStart => exact ⟨0, _, _, rfl, Nat.zero_le _, rfl, H0.out⟩
  case round =>
    clear H0
    rename World => wr
    obtain ⟨j, ao, co, rfl, hj, rfl, hfo⟩ := hrel
    have q1 := hfo.args
    by_cases hlt : j < p.2.size
    · have hlet : p.2[j] = 112 ∨ p.2[j] = 113 ∨ p.2[j] = 100 ∨ p.2[j] = 110 := letters _ (List.mem_of_getElem? HP.out) _ (by
        have : p.2[j] = p.2.data.toList[j]'(by simpa using hlt) := rfl
        rw [this]; exact List.getElem_mem _)
      have HF := Lib.hid hfo
      clear hfo
      rcases hlet with hc | hc | hc | hc
      · have t0 : ((p.2[j].toNat : Int) == 112) = true := by rw [hc]; rfl
        have HC := Lib.hid hc
        clear hc
        have y := HF.out.cell 1 (u := .string ⟨a.path.toArray⟩) rfl
        go_wp2_with (first | (go_at_call 31; (with_reducible refine (quoteB a.path HA.out.path _).mono ?_); rintro e w' ⟨rfl, hb5⟩; have hfo := HF.out.up hb5) | (at_builtin; refine wp_app2 rfl _ _ 47 rfl w.heap.size (.string ⟨#[]⟩) 1 16 Tryz.underlying47 info9 rfl (by decide) _ _ _ rfl hfo.out rfl rfl ?p2 ?p3 ?p5 ?p4 ?_))
        case p2 => simp [Value.oneCell']
        case p3 => omega
        case p5 => omega
        case p4 => exact hfo.below.size
        intro v' w2 ho hb6 hf6
        obtain ⟨a2, c2, rfl⟩ := own_shape ho
        have hfo2 := hfo.app (ts' := p.1.data.toList :: (p.2.data.toList.take (j + 1)).map (argText a)) ho (by rw [take_snoc' p.2 j hlt, List.map_append, ← List.cons_append, strs_app, HC.out]; first | rfl | (rw [← List.map_take]; rfl)) hb6 hf6
        clear hfo hb5 y
        go_wp2_with fail
        go_roundw
        case rel => exact ⟨j + 1, a2, c2, by go_num, hlt, rfl, hfo2⟩
        case measure => simp [intOf]; omega
      · have t0 : ((p.2[j].toNat : Int) == 112) = false := by rw [hc]; rfl
        have t1 : ((p.2[j].toNat : Int) == 113) = true := by rw [hc]; rfl
        have HC := Lib.hid hc
        clear hc
        have y := HF.out.cell 2 (u := .string ⟨a.«to».toArray⟩) rfl
        go_wp2_with (first | (go_at_call 31; (with_reducible refine (quoteB a.«to» HA.out.dest _).mono ?_); rintro e w' ⟨rfl, hb5⟩; have hfo := HF.out.up hb5) | (at_builtin; refine wp_app2 rfl _ _ 47 rfl w.heap.size (.string ⟨#[]⟩) 1 16 Tryz.underlying47 info9 rfl (by decide) _ _ _ rfl hfo.out rfl rfl ?q2 ?q3 ?q5 ?q4 ?_))
        case q2 => simp [Value.oneCell']
        case q3 => omega
        case q5 => omega
        case q4 => exact hfo.below.size
        intro v' w2 ho hb6 hf6
        obtain ⟨a2, c2, rfl⟩ := own_shape ho
        have hfo2 := hfo.app (ts' := p.1.data.toList :: (p.2.data.toList.take (j + 1)).map (argText a)) ho (by rw [take_snoc' p.2 j hlt, List.map_append, ← List.cons_append, strs_app, HC.out]; first | rfl | (rw [← List.map_take]; rfl)) hb6 hf6
        clear hfo hb5 y
        go_wp2_with fail
        go_roundw
        case rel => exact ⟨j + 1, a2, c2, by go_num, hlt, rfl, hfo2⟩
        case measure => simp [intOf]; omega
      · have t0 : ((p.2[j].toNat : Int) == 112) = false := by rw [hc]; rfl
        have t1 : ((p.2[j].toNat : Int) == 113) = false := by rw [hc]; rfl
        have t2 : ((p.2[j].toNat : Int) == 100) = true := by rw [hc]; rfl
        have HC := Lib.hid hc
        clear hc
        have y := HF.out.cell 3 (u := .string ⟨a.data.toArray⟩) rfl
        go_wp2_with (first | (go_at_call 31; (with_reducible refine (quoteB a.data HA.out.data _).mono ?_); rintro e w' ⟨rfl, hb5⟩; have hfo := HF.out.up hb5) | (at_builtin; refine wp_app2 rfl _ _ 47 rfl w.heap.size (.string ⟨#[]⟩) 1 16 Tryz.underlying47 info9 rfl (by decide) _ _ _ rfl hfo.out rfl rfl ?d2 ?d3 ?d5 ?d4 ?_))
        case d2 => simp [Value.oneCell']
        case d3 => omega
        case d5 => omega
        case d4 => exact hfo.below.size
        intro v' w2 ho hb6 hf6
        obtain ⟨a2, c2, rfl⟩ := own_shape ho
        have hfo2 := hfo.app (ts' := p.1.data.toList :: (p.2.data.toList.take (j + 1)).map (argText a)) ho (by rw [take_snoc' p.2 j hlt, List.map_append, ← List.cons_append, strs_app, HC.out]; first | rfl | (rw [← List.map_take]; rfl)) hb6 hf6
        clear hfo hb5 y
        go_wp2_with fail
        go_roundw
        case rel => exact ⟨j + 1, a2, c2, by go_num, hlt, rfl, hfo2⟩
        case measure => simp [intOf]; omega
      · have t0 : ((p.2[j].toNat : Int) == 112) = false := by rw [hc]; rfl
        have t1 : ((p.2[j].toNat : Int) == 113) = false := by rw [hc]; rfl
        have t2 : ((p.2[j].toNat : Int) == 100) = false := by rw [hc]; rfl
        have t3 : ((p.2[j].toNat : Int) == 110) = true := by rw [hc]; rfl
        have HC := Lib.hid hc
        clear hc
        have y := HF.out.cell 4 (u := .int .i64 a.quota) rfl
        go_wp2_with (first | (go_at_call 15; (with_reducible refine (itoa_any a.quota HA.out.quota _ (HV.out.2.1.below HF.out.below)).mono ?_); rintro e w' ⟨rfl, hb5⟩; have hfo := HF.out.up hb5) | (at_builtin; refine wp_app2 rfl _ _ 47 rfl w.heap.size (.string ⟨#[]⟩) 1 16 Tryz.underlying47 info9 rfl (by decide) _ _ _ rfl hfo.out rfl rfl ?n2 ?n3 ?n5 ?n4 ?_))
        case n2 => simp [Value.oneCell']
        case n3 => omega
        case n5 => omega
        case n4 => exact hfo.below.size
        intro v' w2 ho hb6 hf6
        obtain ⟨a2, c2, rfl⟩ := own_shape ho
        have hfo2 := hfo.app (ts' := p.1.data.toList :: (p.2.data.toList.take (j + 1)).map (argText a)) ho (by rw [take_snoc' p.2 j hlt, List.map_append, ← List.cons_append, strs_app, HC.out]; first | rfl | (rw [← List.map_take]; rfl)) hb6 hf6
        clear hfo hb5 y
        go_wp2_with fail
        go_roundw
        case rel => exact ⟨j + 1, a2, c2, by go_num, hlt, rfl, hfo2⟩
        case measure => simp [intOf]; omega
    · have hje : j = p.2.size := by omega
      subst hje
      have hts : p.2.data.toList.take p.2.size = p.2.data.toList := List.take_of_length_le (by simp)
      rw [hts] at hfo
      clear hts
      have y0 := hfo.cell 0 (u := .int .i64 a.kind) rfl
      rw [HH.out.1] at y0
      by_cases h10 : k = 10
      · have t0 : ((k : Int) == 10) = true := by rw [h10]; rfl
        have hz := HK10.out.1 h10
        have HZ := Lib.hid (And.intro h10 hz)
        have y1 := hfo.cell 1 (u := .string ⟨a.path.toArray⟩) rfl
        have y5 := hfo.cell 5 (u := .string ⟨a.job.program.toArray⟩) rfl
        have y6 := hfo.cell 6 (u := .string ⟨a.job.output.toArray⟩) rfl
        have y7 := hfo.cell 7 (u := .slice ai a.job.inputs.length ci) rfl
        have y8 := hfo.cell 8 (u := .int .i64 a.job.parts) rfl
        have y9 := hfo.cell 9 (u := .int .i64 a.job.split) rfl
        have y10 := hfo.cell 10 (u := .int .i64 a.job.spill) rfl
        have HF := Lib.hid hfo
        clear h10 hz hfo
        go_wp2_with fail
        clear y5 y6 y7 y8 y9 y10
        obtain ⟨W0, hW0⟩ : ∃ W0, W0 = wr.alloc (Obj.cells #[.string ⟨a.job.program.toArray⟩, .string ⟨a.job.output.toArray⟩, .slice ai a.job.inputs.length ci, .int .i64 a.job.parts, .int .i64 a.job.split, .int .i64 a.job.spill] 49) := ⟨_, rfl⟩
        have hbW : Below wr.heap.size wr W0 := by rw [hW0]; exact (Below.refl _ _).alloc (Nat.le_refl _) _
        have hob : W0.heap[wr.heap.size]? = some (.cells #[.string ⟨a.job.program.toArray⟩, .string ⟨a.job.output.toArray⟩, .slice ai a.job.inputs.length ci, .int .i64 a.job.parts, .int .i64 a.job.split, .int .i64 a.job.spill] 49 (0, 0)) := by rw [hW0]; exact heap_alloc_new _ _
        rw [← hW0]
        clear hW0
        have hfoW := HF.out.up hbW
        have j1 := hfoW.cell 1 (u := .string ⟨a.path.toArray⟩) rfl
        have j2 : W0.cell? ⟨wr.heap.size, 1, none⟩ = some (.string ⟨a.job.output.toArray⟩) := by simp only [World.cell?, hob]; rfl
        have j3 : W0.cell? ⟨wr.heap.size, 3, none⟩ = some (.int .i64 a.job.parts) := by simp only [World.cell?, hob]; rfl
        have j4 : W0.cell? ⟨wr.heap.size, 4, none⟩ = some (.int .i64 a.job.split) := by simp only [World.cell?, hob]; rfl
        have j5 : W0.cell? ⟨wr.heap.size, 5, none⟩ = some (.int .i64 a.job.spill) := by simp only [World.cell?, hob]; rfl
        have j6 : W0.cell? ⟨wr.heap.size, 0, none⟩ = some (.string ⟨a.job.program.toArray⟩) := by simp only [World.cell?, hob]; rfl
        have j7 : W0.cell? ⟨wr.heap.size, 2, none⟩ = some (.slice ai a.job.inputs.length ci) := by simp only [World.cell?, hob]; rfl
        have hTW : TB W0 := HV.out.2.1.below hfoW.below
        obtain ⟨i9, hi9, hz9, hs9, hb9⟩ := info_parts info9
        clear y0 y1 t0 q1
        refine start_ (n := 22) (S := fun w' : World => Below W0.heap.size W0 w') (ds := [20]) #[false, false, false, false, false, false, false, false, false, false, false, false, false, false, false, false, false, false, false, false, false, false] (by kernel_rfl) rfl rfl (Below.refl _ _).drew (fun hHeld => ?_)
        refine pure_ (i := 0) (N := some 64) (v := ?_) (a' := ?_) #[true, false, false, false, false, false, false, false, false, false, false, false, false, false, false, false, false, false, false, false, false, false] rfl rfl (by kernel_rfl) (fun _ _ _ h => h) (Or.inl ⟨by rfl, ?_⟩) ?_ ?_
        rotate_left
        · intro w'
          go_simp
          with_reducible rfl
        rotate_left
        · simp only [Act.put, List.setIfInBounds_toArray, List.set_cons_zero, List.set_cons_succ]
          rfl
        refine pure_ (i := 1) (N := some 65) (v := ?_) (a' := ?_) #[true, true, false, false, false, false, false, false, false, false, false, false, false, false, false, false, false, false, false, false, false, false] rfl rfl (by kernel_rfl) (fun _ _ _ h => h) (Or.inl ⟨by rfl, ?_⟩) ?_ ?_
        rotate_left
        · intro w'
          go_simp
          with_reducible rfl
        rotate_left
        · simp only [Act.put, List.setIfInBounds_toArray, List.set_cons_zero, List.set_cons_succ]
          rfl
        refine take_ (i := 2) (N := some 66) (v := ?_) (a' := ?_) #[true, true, true, false, false, false, false, false, false, false, false, false, false, false, false, false, false, false, false, false, false, false] rfl rfl (by kernel_rfl) (fun _ _ _ h => h) (Or.inl ⟨by rfl, ?_⟩) hHeld ?_ ?_
        rotate_left
        · intro w' hb'
          have z := cell_kept j1 hb'
          go_simp
          with_reducible rfl
        rotate_left
        · simp only [Act.put, List.setIfInBounds_toArray, List.set_cons_zero, List.set_cons_succ]
          rfl
        refine pure_ (i := 4) (N := some 68) (v := ?_) (a' := ?_) #[true, true, true, false, true, false, false, false, false, false, false, false, false, false, false, false, false, false, false, false, false, false] rfl rfl (by kernel_rfl) (fun _ _ _ h => h) (Or.inl ⟨by rfl, ?_⟩) ?_ ?_
        rotate_left
        · intro w'
          go_simp
          with_reducible rfl
        rotate_left
        · simp only [Act.put, List.setIfInBounds_toArray, List.set_cons_zero, List.set_cons_succ]
          rfl
        refine take_ (i := 5) (N := some 69) (v := ?_) (a' := ?_) #[true, true, true, false, true, true, false, false, false, false, false, false, false, false, false, false, false, false, false, false, false, false] rfl rfl (by kernel_rfl) (fun _ _ _ h => h) (Or.inl ⟨by rfl, ?_⟩) hHeld ?_ ?_
        rotate_left
        · intro w' hb'
          have z := cell_kept j2 hb'
          go_simp
          with_reducible rfl
        rotate_left
        · simp only [Act.put, List.setIfInBounds_toArray, List.set_cons_zero, List.set_cons_succ]
          rfl
        refine pure_ (i := 7) (N := some 71) (v := ?_) (a' := ?_) #[true, true, true, false, true, true, false, true, false, false, false, false, false, false, false, false, false, false, false, false, false, false] rfl rfl (by kernel_rfl) (fun _ _ _ h => h) (Or.inl ⟨by rfl, ?_⟩) ?_ ?_
        rotate_left
        · intro w'
          go_simp
          with_reducible rfl
        rotate_left
        · simp only [Act.put, List.setIfInBounds_toArray, List.set_cons_zero, List.set_cons_succ]
          rfl
        refine take_ (i := 8) (N := some 72) (v := ?_) (a' := ?_) #[true, true, true, false, true, true, false, true, true, false, false, false, false, false, false, false, false, false, false, false, false, false] rfl rfl (by kernel_rfl) (fun _ _ _ h => h) (Or.inl ⟨by rfl, ?_⟩) hHeld ?_ ?_
        rotate_left
        · intro w' hb'
          have z := cell_kept j3 hb'
          go_simp
          with_reducible rfl
        rotate_left
        · simp only [Act.put, List.setIfInBounds_toArray, List.set_cons_zero, List.set_cons_succ]
          rfl
        refine pure_ (i := 10) (N := some 74) (v := ?_) (a' := ?_) #[true, true, true, false, true, true, false, true, true, false, true, false, false, false, false, false, false, false, false, false, false, false] rfl rfl (by kernel_rfl) (fun _ _ _ h => h) (Or.inl ⟨by rfl, ?_⟩) ?_ ?_
        rotate_left
        · intro w'
          go_simp
          with_reducible rfl
        rotate_left
        · simp only [Act.put, List.setIfInBounds_toArray, List.set_cons_zero, List.set_cons_succ]
          rfl
        refine take_ (i := 11) (N := some 75) (v := ?_) (a' := ?_) #[true, true, true, false, true, true, false, true, true, false, true, true, false, false, false, false, false, false, false, false, false, false] rfl rfl (by kernel_rfl) (fun _ _ _ h => h) (Or.inl ⟨by rfl, ?_⟩) hHeld ?_ ?_
        rotate_left
        · intro w' hb'
          have z := cell_kept j4 hb'
          go_simp
          with_reducible rfl
        rotate_left
        · simp only [Act.put, List.setIfInBounds_toArray, List.set_cons_zero, List.set_cons_succ]
          rfl
        refine pure_ (i := 13) (N := some 77) (v := ?_) (a' := ?_) #[true, true, true, false, true, true, false, true, true, false, true, true, false, true, false, false, false, false, false, false, false, false] rfl rfl (by kernel_rfl) (fun _ _ _ h => h) (Or.inl ⟨by rfl, ?_⟩) ?_ ?_
        rotate_left
        · intro w'
          go_simp
          with_reducible rfl
        rotate_left
        · simp only [Act.put, List.setIfInBounds_toArray, List.set_cons_zero, List.set_cons_succ]
          rfl
        refine take_ (i := 14) (N := some 78) (v := ?_) (a' := ?_) #[true, true, true, false, true, true, false, true, true, false, true, true, false, true, true, false, false, false, false, false, false, false] rfl rfl (by kernel_rfl) (fun _ _ _ h => h) (Or.inl ⟨by rfl, ?_⟩) hHeld ?_ ?_
        rotate_left
        · intro w' hb'
          have z := cell_kept j5 hb'
          go_simp
          with_reducible rfl
        rotate_left
        · simp only [Act.put, List.setIfInBounds_toArray, List.set_cons_zero, List.set_cons_succ]
          rfl
        refine pure_ (i := 16) (N := some 80) (v := ?_) (a' := ?_) #[true, true, true, false, true, true, false, true, true, false, true, true, false, true, true, false, true, false, false, false, false, false] rfl rfl (by kernel_rfl) (fun _ _ _ h => h) (Or.inl ⟨by rfl, ?_⟩) ?_ ?_
        rotate_left
        · intro w'
          go_simp
          with_reducible rfl
        rotate_left
        · simp only [Act.put, List.setIfInBounds_toArray, List.set_cons_zero, List.set_cons_succ]
          rfl
        refine take_ (i := 17) (N := some 81) (v := ?_) (a' := ?_) #[true, true, true, false, true, true, false, true, true, false, true, true, false, true, true, false, true, true, false, false, false, false] rfl rfl (by kernel_rfl) (fun _ _ _ h => h) (Or.inl ⟨by rfl, ?_⟩) hHeld ?_ ?_
        rotate_left
        · intro w' hb'
          have z := cell_kept j6 hb'
          go_simp
          with_reducible rfl
        rotate_left
        · simp only [Act.put, List.setIfInBounds_toArray, List.set_cons_zero, List.set_cons_succ]
          rfl
        refine one_ (i := 3) (N := some 67) #[true, true, true, true, true, true, false, true, true, false, true, true, false, true, true, false, true, true, false, false, false, false] rfl rfl (by kernel_rfl) (by decide) (fun K hK => ?_)
        refine goes_ Tryz.func31 (by kernel_rfl) rfl #[.string ⟨a.path.toArray⟩] (by rfl) rfl rfl (by simp only [List.map_toArray, List.map_cons, List.map_nil]; rfl) ?_
        refine (quoteB a.path HA.out.path _).mono ?_
        rintro e w1 ⟨rfl, hb3⟩
        refine ⟨_, rfl, hK.out _ _ (hHeld.trans (hb3.mono hHeld.size)) (fun hHeld => ?_)⟩
        clear hb3 hK
        refine norm_ (a' := ?a3) ?h3 ?_
        case h3 =>
          simp only [Act.put, List.setIfInBounds_toArray, List.set_cons_zero, List.set_cons_succ]
          rfl
        refine one_ (i := 6) (N := some 70) #[true, true, true, true, true, true, true, true, true, false, true, true, false, true, true, false, true, true, false, false, false, false] rfl rfl (by kernel_rfl) (by decide) (fun K hK => ?_)
        refine goes_ Tryz.func31 (by kernel_rfl) rfl #[.string ⟨a.job.output.toArray⟩] (by rfl) rfl rfl (by simp only [List.map_toArray, List.map_cons, List.map_nil]; rfl) ?_
        refine (quoteB a.job.output HA.out.output _).mono ?_
        rintro e w2 ⟨rfl, hb6⟩
        refine ⟨_, rfl, hK.out _ _ (hHeld.trans (hb6.mono hHeld.size)) (fun hHeld => ?_)⟩
        clear hb6 hK
        refine norm_ (a' := ?a6) ?h6 ?_
        case h6 =>
          simp only [Act.put, List.setIfInBounds_toArray, List.set_cons_zero, List.set_cons_succ]
          rfl
        refine one_ (i := 9) (N := some 73) #[true, true, true, true, true, true, true, true, true, true, true, true, false, true, true, false, true, true, false, false, false, false] rfl rfl (by kernel_rfl) (by decide) (fun K hK => ?_)
        refine goes_ Tryz.func15 (by kernel_rfl) rfl #[.int .i64 a.job.parts] (by rfl) rfl rfl (by simp only [List.map_toArray, List.map_cons, List.map_nil]; rfl) ?_
        refine (itoa_any a.job.parts HA.out.parts _ (hTW.below hHeld)).mono ?_
        rintro e w3 ⟨rfl, hb9⟩
        refine ⟨_, rfl, hK.out _ _ (hHeld.trans (hb9.mono hHeld.size)) (fun hHeld => ?_)⟩
        clear hb9 hK
        refine norm_ (a' := ?a9) ?h9 ?_
        case h9 =>
          simp only [Act.put, List.setIfInBounds_toArray, List.set_cons_zero, List.set_cons_succ]
          rfl
        refine one_ (i := 12) (N := some 76) #[true, true, true, true, true, true, true, true, true, true, true, true, true, true, true, false, true, true, false, false, false, false] rfl rfl (by kernel_rfl) (by decide) (fun K hK => ?_)
        refine goes_ Tryz.func15 (by kernel_rfl) rfl #[.int .i64 a.job.split] (by rfl) rfl rfl (by simp only [List.map_toArray, List.map_cons, List.map_nil]; rfl) ?_
        refine (itoa_any a.job.split HA.out.split _ (hTW.below hHeld)).mono ?_
        rintro e w4 ⟨rfl, hb12⟩
        refine ⟨_, rfl, hK.out _ _ (hHeld.trans (hb12.mono hHeld.size)) (fun hHeld => ?_)⟩
        clear hb12 hK
        refine norm_ (a' := ?a12) ?h12 ?_
        case h12 =>
          simp only [Act.put, List.setIfInBounds_toArray, List.set_cons_zero, List.set_cons_succ]
          rfl
        refine one_ (i := 15) (N := some 79) #[true, true, true, true, true, true, true, true, true, true, true, true, true, true, true, true, true, true, false, false, false, false] rfl rfl (by kernel_rfl) (by decide) (fun K hK => ?_)
        refine goes_ Tryz.func15 (by kernel_rfl) rfl #[.int .i64 a.job.spill] (by rfl) rfl rfl (by simp only [List.map_toArray, List.map_cons, List.map_nil]; rfl) ?_
        refine (itoa_any a.job.spill HA.out.spill _ (hTW.below hHeld)).mono ?_
        rintro e w5 ⟨rfl, hb15⟩
        refine ⟨_, rfl, hK.out _ _ (hHeld.trans (hb15.mono hHeld.size)) (fun hHeld => ?_)⟩
        clear hb15 hK
        refine norm_ (a' := ?a15) ?h15 ?_
        case h15 =>
          simp only [Act.put, List.setIfInBounds_toArray, List.set_cons_zero, List.set_cons_succ]
          rfl
        refine one_ (i := 18) (N := some 82) #[true, true, true, true, true, true, true, true, true, true, true, true, true, true, true, true, true, true, true, false, false, false] rfl rfl (by kernel_rfl) (by decide) (fun K hK => ?_)
        refine goes_ Tryz.func31 (by kernel_rfl) rfl #[.string ⟨a.job.program.toArray⟩] (by rfl) rfl rfl (by simp only [List.map_toArray, List.map_cons, List.map_nil]; rfl) ?_
        refine (quoteB a.job.program HA.out.program _).mono ?_
        rintro e w6 ⟨rfl, hb18⟩
        refine ⟨_, rfl, hK.out _ _ (hHeld.trans (hb18.mono hHeld.size)) (fun hHeld => ?_)⟩
        clear hb18 hK
        refine norm_ (a' := ?a18) ?h18 ?_
        case h18 =>
          simp only [Act.put, List.setIfInBounds_toArray, List.set_cons_zero, List.set_cons_succ]
          rfl
        refine one_ (i := 19) (N := some 83) #[true, true, true, true, true, true, true, true, true, true, true, true, true, true, true, true, true, true, true, true, false, false] rfl rfl (by kernel_rfl) (by decide) (fun K hK => ?_)
        go_simp
        refine hK.out _ _ (hHeld.alloc hHeld.size _) (fun _ => ?_)
        refine last_ (i := 20) (N := some 84) #[true, true, true, true, true, true, true, true, true, true, true, true, true, true, true, true, true, true, true, true, true, false] rfl rfl (by kernel_rfl) (by decide) (fun K hK => ?_)
        have hfo6 := hfoW.up hHeld
        refine step_append_lies _ (by rfl) _ _ _ (by rfl) w.heap.size 9 i9 _ 1 16 Tryz.underlying47 hi9 hz9 hs9 hb9 rfl (by omega) _ _ _ (by rfl) (own_alloc hfo6.out _) ⟨w6.heap.size, 0, none⟩ 6 6 (strs (subTexts a)) (by rfl) (by rfl) (World.news_of_block (cs := (strs (subTexts a)).toArray) (t := 9) (fr := (0, 0)) (heap_alloc_new w6 _)) (fun u hu => by simp only [strs, List.mem_map] at hu; obtain ⟨x, -, rfl⟩ := hu; rfl) (by omega) (by unfold maxLen; omega) (by omega) (by have := hfo6.below.size; simp; omega) (w6.heap.size + 1) (by simp) ?_
        intro gg cap w7 hown7 hgrow hat hlt7
        have hb7 : Below w.heap.size w6 w7 := ((Below.refl _ _).alloc hfo6.below.size _).grown hgrow (by have := hfo6.below.size; simp; omega) (own_ge hfo6.out)
        have hf7 : Fr [9] w6 w7 := ((Fr.refl [9] w6).alloc _).grown hgrow (own_kindT (own_alloc hfo6.out _) (by simp))
        have hfo7 := hfo6.app (ts' := (p.1.data.toList :: p.2.data.toList.map (argText a)) ++ subTexts a) hown7 (by rw [strs_app]) hb7 hf7
        have hob7 := hf7 _ _ (show w6.heap[wr.heap.size]? = _ by rw [hHeld.block _ (Array.getElem?_eq_some_iff.1 hob).1]; exact hob) (fun c t fz e => by injection e with _ e1; subst e1; decide)
        refine hK.out _ _ ?_
        refine norm_ (a' := Go.Act.put _ (some 84) (.slice (some ⟨gg, 0, none⟩) (p.2.size + 1 + 6) cap)) rfl ?_
        refine norm_ (a' := ?a20) ?h20 ?_
        case h20 =>
          simp only [Act.put, List.setIfInBounds_toArray, List.set_cons_zero, List.set_cons_succ]
          rfl
        refine pure_ (i := 21) (N := some 4) (v := ?_) (a' := ?_) #[true, true, true, true, true, true, true, true, true, true, true, true, true, true, true, true, true, true, true, true, true, true] rfl rfl (by kernel_rfl) (fun _ _ _ h => h) (Or.inl ⟨by rfl, ?_⟩) ?_ ?_
        rotate_left
        · intro w'
          go_simp
          with_reducible rfl
        rotate_left
        · simp only [Act.put, List.setIfInBounds_toArray, List.set_cons_zero, List.set_cons_succ]
          rfl
        refine done_ (by kernel_rfl) ?_
        have j7' : w7.cell? ⟨wr.heap.size, 2, none⟩ = some (.slice ai a.job.inputs.length ci) := by simp only [World.cell?, hob7]; rfl
        obtain ⟨N, hN⟩ : ∃ N, p.2.size + 1 + 6 = N := ⟨_, rfl⟩
        rw [hN]
        rw [hN] at hfo7
        have HN := Lib.hid hN
        have HF7 := Lib.hid hfo7
        clear hN hfo7 hfo6 hown7 hgrow hat hlt7 hf7 hb7 hob7 hK hHeld hfoW j1 j2 j3 j4 j5 j6 j7 hbW hob hTW
        go_wp2_with fail
        have hN7 : N ≤ 9 := by have := HN.out; omega
        obtain ⟨TS, hTS⟩ : ∃ TS, (p.1.data.toList :: p.2.data.toList.map (argText a)) ++ subTexts a = TS := ⟨_, rfl⟩
        rw [hTS] at HF7
        have HTS := Lib.hid hTS
        clear hTS
        clear j7'
        go_loopw [4, 88] (fun vo i wx => ∃ (j : Nat) (ao : Option Addr) (c : Nat), i = .int .i64 j ∧ j ≤ a.job.inputs.length ∧ vo = .slice ao (N + j) c ∧ FO w a (.slice ai a.job.inputs.length ci) p vo (N + j) (TS ++ (a.job.inputs.take j).map quote) wx) (fun _ i _ => a.job.inputs.length - (intOf i).toNat)
        case atStart => exact ⟨0, _, _, rfl, Nat.zero_le _, rfl, by simpa using HF7.out⟩
        case round =>
          rename World => wx
          obtain ⟨j, ao2, co2, rfl, hj2, rfl, hfo⟩ := hrel
          have hil := HA.out.inputs
          by_cases hlt2 : j < a.job.inputs.length
          · have hij := HA.out.input _ (List.getElem_mem hlt2)
            obtain ⟨gi, ci', ei, hci⟩ := own_cell HV.out.2.2 (by omega)
            injection ei with ei1 ei2 ei3
            subst ei1 ei3
            clear ei2
            have x1 := cell_kept (hci j (.string ⟨(a.job.inputs[j]).toArray⟩) (by simp [strs, List.getElem?_eq_getElem hlt2])) hfo.below
            clear hci
            have HX := Lib.hid hfo
            clear hfo
            go_wp2_with (first | (go_at_call 31; (with_reducible refine (quoteB (a.job.inputs[j]) hij _).mono ?_); rintro e w' ⟨rfl, hb5⟩; have hfo := HX.out.up hb5) | (at_builtin; refine wp_app2 rfl _ _ 47 rfl w.heap.size (.string ⟨#[]⟩) 1 16 Tryz.underlying47 info9 rfl (by decide) _ _ _ rfl hfo.out rfl rfl ?i2 ?i3 ?i5 ?i4 ?_))
            case i2 => simp [Value.oneCell']
            case i3 => omega
            case i5 => omega
            case i4 => exact hfo.below.size
            intro v' w2 ho hb6 hf6
            obtain ⟨a2, c2, rfl⟩ := own_shape ho
            have hfo2 := hfo.app (ts' := TS ++ (a.job.inputs.take (j + 1)).map quote) ho (by simp only [strs, List.take_succ_eq_append_getElem hlt2, List.map_append, List.map_take, List.map_cons, List.map_nil, List.append_assoc]) hb6 hf6
            have HY := Lib.hid hfo2
            clear hfo hb5 hfo2 x1
            go_wp2_with fail
            go_roundw
            case rel => exact ⟨j + 1, a2, c2, by go_num, hlt2, rfl, HY.out⟩
            case measure => simp [intOf]; omega
          · have hje : j = a.job.inputs.length := by omega
            subst hje
            rw [List.take_length] at hfo
            have HX := Lib.hid hfo
            clear hfo
            have e := HT.out
            rw [if_pos HZ.out.1, ← List.append_assoc, HTS.out] at e
            have hl : (actTexts a).length = N + a.job.inputs.length := by
              have h1 := HX.out.out.1
              rw [e]
              simpa [strs] using h1
            have HE := Lib.hid (And.intro e hl)
            clear e hl
            go_wp2_with fail
            go_ret
            refine ⟨ao2, co2, by rw [HE.out.2]; rfl, HX.out.below, ?_⟩
            rw [HE.out.2, HE.out.1]
            exact HX.out.out
      · have t0 : ((k : Int) == 10) = false := by rw [beq_eq_false_iff_ne]; omega
        have e := HT.out
        rw [if_neg h10, List.append_nil] at e
        have HE := Lib.hid e
        have HF := Lib.hid hfo
        clear e h10 hfo
        go_wp2_with fail
        go_ret
        have hl : (actTexts a).length = p.2.size + 1 := by rw [HE.out, List.length_cons, List.length_map]; exact congrArg (· + 1) Array.length_toList
        refine ⟨ao, co, by rw [hl]; rfl, HF.out.below, ?_⟩
        rw [hl, HE.out]
        exact HF.out.out
end Go.Proofs.YtmkmkccdlopogaaGreatDoor.Con
