/- From the rows' lists to what the walks ask of the package's variables; a world that meets the lists. -/
import Derived.Test.YtmkmkccdlopogaaGreatDoorRows
import Derived.Test.YtmkmkccdlopogaaGreatDoorConLb
import Derived.Lib.LaidU8
import Derived.Lay
import Derived.LaidHandle
import Derived.LaidSub
import Derived.OpenShut
import Derived.ChangeSame
import Derived.ProofKit
import Derived.Deep.DeepHandedRow
import Derived.Deep.DeepWitnessRowRef
set_option linter.unusedVariables false
set_option linter.unusedSimpArgs false
namespace Go.Proofs.YtmkmkccdlopogaaGreatDoor.Con
open Go.ChangeShapes Go.WideShapes Go.ChangeAt Go.RowKit

/-- the list of the three rows -/
abbrev theLaid : List (String × DataW Unit) := Rows.consoleThereAndBackRow.laid

theorem own : ownKnob Tryz.prog.godebug = none := by kernel_rfl
theorem et : Tryz.prog.globalNamed "errors.errorType" = some 1 := by kernel_rfl
theorem rt : (Tryz.prog.cutTypes.find? (·.1 == "internal/reflectlite.rtype")).map (·.2) = some 133 := by kernel_rfl
theorem oneRow : ((List.range 219).filter fun t => Tryz.prog.rowNamed t [101, 114, 114, 111, 114]) = [62] := by kernel_rfl
theorem tsize : Tryz.prog.types.size = 219 := by kernel_rfl
theorem et_of {W : World} (h : laidMetH Tryz.prog theLaid W) : ET W := by
  have h' := (laidMetH_iff.1 h).2
  obtain ⟨name, u, ty, e1, e2, e3, e4, e5⟩ := h' ("errors.errorType", Rows.laid_errors_errorType) (List.mem_filter.2 ⟨.tail _ (.tail _ (.tail _ (.tail _ (.head _)))), rfl⟩)
  have en : name = [101, 114, 114, 111, 114] := (Option.some.inj e1).symm
  subst en
  obtain rfl := Option.some.inj (rt.symm.trans e2)
  have hm : ty ∈ (List.range 219).filter fun t => Tryz.prog.rowNamed t [101, 114, 114, 111, 114] := List.mem_filter.2 ⟨List.mem_range.2 (by rw [← tsize]; exact e3), e4⟩
  rw [oneRow] at hm
  obtain rfl := List.mem_singleton.1 hm
  have hh : typeHandle Tryz.prog 62 = .pointer (some ⟨10, 62, none⟩) := by kernel_rfl
  rw [hh] at e5
  unfold ET
  simpa using World.var?_cell et e5 0
theorem tb_of {W : World} (h : laidMetH Tryz.prog theLaid W) : TB W := by
  have hr := Lib.laidMet.reads (laidMetH_iff.1 h).1 (n := "internal/strconv.uint64pow10") (d := Rows.laid_internal_strconv_uint64pow10) (List.mem_filter.2 ⟨.tail _ (.tail _ (.head _)), rfl⟩)
  obtain ⟨g, t, cs, fuel, p, hg, hty, hvar, hd⟩ := hr
  obtain rfl := Option.some.inj (gPow.symm.trans hg)
  obtain rfl := Option.some.inj ((show (Tryz.prog.globals[3]?).map (·.type) = some 163 by kernel_rfl).symm.trans hty)
  have hd' : DataW.trod (fun _ => ()) Tryz.prog W 0 (fun _ => true) false fuel 163 cs.toList = some (Lib.tabData .u64 Lib.pow10Tab, p) := hd
  have := Lib.cells_of_tab Tryz.underlying163 Tryz.underlying89 (by kernel_rfl) (by kernel_rfl) hd'
  unfold TB Lib.TabIs
  rw [hvar, ← this]
theorem pairs_eq : ∀ (ps : List (ByteArray × ByteArray)) (l : List Value), l.length = ps.length * 2 → (∀ i p, ps[i]? = some p → (l.drop (i * 2)).take 2 = [.string p.1, .string p.2]) → l = ps.flatMap fun p => [.string p.1, .string p.2]
  | [], l, hl, _ => by simpa using hl
  | p :: ps, l, hl, h => by
    match l, hl with
    | a :: b :: l, hl =>
      have h0 := h 0 p rfl
      simp at h0
      have ih := pairs_eq ps l (by simp at hl; omega) (fun i q hq => by
        have := h (i + 1) q (by simpa using hq)
        have e : (i + 1) * 2 = i * 2 + 1 + 1 := by omega
        rw [e] at this
        simpa using this)
      rw [List.flatMap_cons, ← ih, h0.1, h0.2]
      rfl
    | [a], hl => simp at hl <;> omega
    | [], hl => simp at hl <;> omega
theorem verbs_datum : Rows.laid_mahout_console_verbs (H := Unit) = .agg (vtab.map fun p => .agg [.lit (.string p.1.data.toList), .lit (.string p.2.data.toList)]) := rfl
set_option maxRecDepth 100000 in
theorem vb_of {W : World} (h : laidMetH Tryz.prog theLaid W) : VB W := by
  have hr := Lib.laidMet.reads (laidMetH_iff.1 h).1 (n := "mahout/console.verbs") (d := Rows.laid_mahout_console_verbs) (List.mem_filter.2 ⟨.tail _ (.tail _ (.tail _ (.tail _ (.tail _ (.tail _ (.tail _ (.head _))))))), rfl⟩)
  obtain ⟨g, t, cs, fuel, p, hg, hty, hvar, hd⟩ := hr
  obtain rfl := Option.some.inj ((show Tryz.prog.globalNamed "mahout/console.verbs" = some 0 by kernel_rfl).symm.trans hg)
  obtain rfl := Option.some.inj ((show (Tryz.prog.globals[0]?).map (·.type) = some 87 by kernel_rfl).symm.trans hty)
  rw [verbs_datum] at hd
  obtain ⟨xs, m, _, ex, hcl, hl, hel⟩ := DataW.trod_array Tryz.underlying87 hd
  have c87 : Tryz.prog.cellsOf 87 = 24 := by kernel_rfl
  have c86 : Tryz.prog.cellsOf 86 = 2 := by kernel_rfl
  have c9 : Tryz.prog.cellsOf 9 = 1 := by kernel_rfl
  rw [c87] at hcl
  rw [c86] at hel
  have hxs : xs.map (·.1) = vtab.map fun p => (.agg [.lit (.string p.1.data.toList), .lit (.string p.2.data.toList)] : DataW Unit) := by
    have := congrArg Prod.fst ex
    simpa using this.symm
  have hcs : cs.toList = vcells := by
    refine pairs_eq vtab cs.toList (by rw [hcl, vtab_len]) (fun i q hq => ?_)
    have hi : i < 12 := by
      have := (List.getElem?_eq_some_iff.1 hq).1
      rwa [vtab_len] at this
    have h1 := hel i hi
    obtain ⟨b, hb⟩ : ∃ b, xs[i]? = some b := ⟨xs[i]'(by omega), List.getElem?_eq_getElem _⟩
    rw [hb] at h1
    have hb1 : b.1 = .agg [.lit (.string q.1.data.toList), .lit (.string q.2.data.toList)] := by
      have h2 : (xs.map (·.1))[i]? = some b.1 := by rw [List.getElem?_map, hb]; rfl
      rw [hxs, List.getElem?_map, hq] at h2
      exact (Option.some.inj h2).symm
    obtain ⟨ys, k, _, ey, hyl, hys, hall⟩ := DataW.trod_struct Tryz.underlying86 h1
    rw [c86] at hyl
    obtain ⟨l, hl2⟩ : ∃ l, (cs.toList.drop (i * 2)).take 2 = l := ⟨_, rfl⟩
    rw [hl2] at hyl hall ⊢
    clear hl2
    match l, hyl with
    | [u, v], _ =>
      have q0 := hall 0 _ rfl
      have q1 := hall 1 _ rfl
      have hy : ys.map (·.1) = [.lit (.string q.1.data.toList), .lit (.string q.2.data.toList)] := by
        have := (congrArg Prod.fst ey).symm
        rw [hb1] at this
        simpa using this
      match ys, hy with
      | [y0, y1], hy =>
        simp only [List.map_cons, List.map_nil, List.cons.injEq, and_true] at hy
        simp [c9] at q0 q1
        obtain ⟨s0, e0, f0, _⟩ := DataW.trod_string Tryz.underlying9 q0
        obtain ⟨s1, e1, f1, _⟩ := DataW.trod_string Tryz.underlying9 q1
        simp only [List.cons.injEq, and_true] at e0 e1
        subst e0 e1
        rw [f0, f1] at hy
        simp only [DataW.lit.injEq, Lit.string.injEq] at hy
        have g0 : s0 = q.1 := by rw [← Lib.mk_data s0, hy.1, Lib.mk_data]
        have g1 : s1 = q.2 := by rw [← Lib.mk_data s1, hy.2, Lib.mk_data]
        rw [g0, g1]
  unfold World.var? at hvar
  rw [show Tryz.prog.globalNamed "mahout/console.verbs" = some 0 by kernel_rfl] at hvar
  simp only [Option.bind_some] at hvar
  split at hvar
  · rename_i c t fz hh
    obtain rfl := Option.some.inj hvar
    refine ⟨t, fz, ?_⟩
    rw [hh]
    have : c = vcA := by rw [← Array.toArray_toList (xs := c), hcs]; rfl
    rw [this]
  · cases hvar
theorem ml_of {W : World} (h : W.ShapedOpen Tryz.prog) : ML W := Tryz.laysM146.s1_3 W h
theorem law_of {W : World} (h : laidMetH Tryz.prog theLaid W) (hs : W.ShapedOpen Tryz.prog) : LawOK W := ⟨ml_of hs, vb_of h, et_of h, tb_of h⟩
end Go.Proofs.YtmkmkccdlopogaaGreatDoor.Con
