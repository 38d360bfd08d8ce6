/- strings.Builder's writers, strings.Trim, strconv.Itoa at this program: what the walks of the console take. -/
import Derived.Test.YtmkmkccdlopogaaGreatDoorShelf
import Derived.Test.YtmkmkccdlopogaaGreatDoorConF
import Derived.Test.YtmkmkccdlopogaaGreatDoorConA
set_option linter.unusedVariables false
set_option linter.unusedSimpArgs false
namespace Go.Proofs
open Go.Shelf
def Tryz.laysB_ren : Go.Shelf.Ren := ⟨fun | 167 => 48 | 240 => 28 | 276 => 45 | 166 => 13 | 169 => 17 | n => n, fun | 0 => 0 | 4 => 4 | 5 => 5 | 9 => 9 | 20 => 20 | 37 => 44 | 70 => 58 | 72 => 60 | 75 => 62 | 164 => 102 | 3 => 3 | 80 => 69 | 127 => 88 | n => n, fun | n => n⟩
theorem Tryz.laysB167 : Go.Proofs.Lays.n167 Tryz.prog Tryz.laysB_ren := {
  mixed := by kernel_rfl
  f167 := Tryz.func48.trans (congrArg some (by kernel_rfl))
  f240 := Tryz.func28.trans (congrArg some (by kernel_rfl))
  f276 := Tryz.func45.trans (congrArg some (by kernel_rfl))
  t0 := Tryz.underlying0
  a0 := Tryz.isAgg0
  z0 := Tryz.sizeOf0
  v0 := Tryz.zeroValue0
  t4 := Tryz.underlying4
  a4 := Tryz.isAgg4
  z4 := Tryz.sizeOf4
  v4 := Tryz.zeroValue4
  t5 := Tryz.underlying5
  a5 := Tryz.isAgg5
  z5 := Tryz.sizeOf5
  v5 := Tryz.zeroValue5
  t9 := Tryz.underlying9
  a9 := Tryz.isAgg9
  z9 := Tryz.sizeOf9
  v9 := Tryz.zeroValue9
  t20 := Tryz.underlying20
  a20 := Tryz.isAgg20
  z20 := Tryz.sizeOf20
  v20 := Tryz.zeroValue20
  t37 := Tryz.underlying44
  a37 := Tryz.isAgg44
  z37 := Tryz.sizeOf44
  v37 := Tryz.zeroValue44
  t70 := Tryz.underlying58
  a70 := Tryz.isAgg58
  z70 := Tryz.sizeOf58
  v70 := Tryz.zeroValue58
  t72 := Tryz.underlying60
  a72 := Tryz.isAgg60
  z72 := Tryz.sizeOf60
  v72 := Tryz.zeroValue60
  t75 := Tryz.underlying62
  a75 := Tryz.isAgg62
  z75 := Tryz.sizeOf62
  v75 := Tryz.zeroValue62
  t164 := Tryz.underlying102
  a164 := Tryz.isAgg102
  z164 := Tryz.sizeOf102
  v164 := Tryz.zeroValue102 }

theorem Tryz.Builder_ExtraB : Builder.Extra Tryz.prog Tryz.laysB_ren := {
  sizeBuilder := by kernel_rfl
  liesBuilder := by kernel_rfl
  t5 := Tryz.underlying5
  a5 := Tryz.isAgg5
  z5 := Tryz.sizeOf5
  v5 := Tryz.zeroValue5
  infoByte := by kernel_rfl
  cellsByte := by kernel_rfl
  sizeByte := by kernel_rfl
  neB5 := by decide }
theorem Tryz.Builder_WriteByte_k (B b : Nat) (bs : List Value) (c : Int) (w : World) (h : Lib.IsBuilderF 60 5 B b bs w) (hlen : bs.length + 1 ≤ 140737488355328) (hBw : B ≤ w.heap.size) :
    Calls Tryz.prog 48 #[.pointer (some ⟨b, 0, none⟩), .int .u8 c] w fun e w' => e = .returned .nilIface ∧ (Lib.BuilderAtF 60 5 B b (.pointer (some ⟨b, 0, none⟩)) (bs ++ [.int .u8 c]) w' ∧ Go.RowKit.Below B w w' ∧ Lib.OthersKept 5 (some b) w w') :=
  Any.Builder_WriteByte_k Tryz.laysB167 Tryz.Builder_ExtraB B b bs c w h hlen hBw
theorem Tryz.Builder_WriteString_k (B b : Nat) (bs : List Value) (s : ByteArray) (w : World) (h : Lib.IsBuilderF 60 5 B b bs w) (hlen : bs.length + s.size ≤ 140737488355328) (hBw : B ≤ w.heap.size) :
    Calls Tryz.prog 13 #[.pointer (some ⟨b, 0, none⟩), .string s] w fun e w' => e = .returned (.tuple #[.int .i64 s.size, .nilIface]) ∧ (Lib.BuilderAtF 60 5 B b (.pointer (some ⟨b, 0, none⟩)) (bs ++ Lib.strCells s) w' ∧ Go.RowKit.Below B w w' ∧ Lib.OthersKept 5 (some b) w w') :=
  Any.Builder_WriteString_k (L := { Tryz.lays156 with }) Tryz.Builder_Extra_156 B b bs s w h hlen hBw
theorem Tryz.strings_Trim_laid (s cutset : ByteArray) (w : World) (hs : s.size ≤ 9223372036854775807) (hcs : cutset.size < 4294967281) (hac : ∀ (j : Nat) b, cutset.data.toList[j]? = some b → b.toNat < 128) :
    Calls Tryz.prog 58 #[.string s, .string cutset] w fun e w' => e = .returned (.string ⟨(Lib.trimS s.data.toList cutset.data.toList).toArray⟩) ∧ Go.RowKit.Below w.heap.size w w' :=
  Any.strings_Trim_laid Tryz.lays160 (by kernel_rfl) s cutset w hs hcs hac
end Go.Proofs
