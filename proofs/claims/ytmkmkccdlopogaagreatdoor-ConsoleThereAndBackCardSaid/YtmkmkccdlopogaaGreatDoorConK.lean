/- Cutting a line into fields: the plain side, and the frame at the label. -/
import Derived.Test.YtmkmkccdlopogaaGreatDoorProg
import Derived.Test.YtmkmkccdlopogaaGreatDoorConG
import Derived.Test.YtmkmkccdlopogaaGreatDoorConJ
set_option linter.unusedVariables false
set_option linter.unusedSimpArgs false
namespace Go.Proofs.YtmkmkccdlopogaaGreatDoor.Con
open Go.RowKit

theorem info95 : (Tryz.prog.info? 95).map (fun i => (i.zero, i.size, i.bytes)) = some (some (.agg #[.string ⟨#[]⟩, .bool false]), 2, 24) := by kernel_rfl
def fcells (fs : List Field) : List Value := fs.flatMap fun f => [.string ⟨f.text.toArray⟩, .bool f.quoted]

theorem wrong_any (c : Int) (w : World) : Calls Tryz.prog 35 #[.int .i64 c] w fun e w' => e = .returned (.iface 82 (.pointer (some ⟨w.heap.size, 0, none⟩))) ∧ w' = w.alloc (.cells #[.int .i64 c, .int .i64 0] 40) := by
  go_enter Tryz.func35, Tryz.ntmps35
  go_wp2
  go_ret
  exact ⟨rfl, rfl⟩

/-- what cut hands back -/
def CutPost (B0 : Nat) (w : World) (o : Option (List Field)) (e : Ending) (w' : World) : Prop :=
  Below B0 w w' ∧ match o with
    | some fs => ∃ v, e = .returned (.tuple #[v, .nilIface]) ∧ w'.ownsRow B0 95 2 v fs.length (fcells fs)
    | none => ∃ b, e = .returned (.tuple #[.slice none 0 0, .iface 82 (.pointer (some ⟨b, 0, none⟩))]) ∧ B0 ≤ b ∧ w'.heap[b]? = some (.cells #[.int .i64 160, .int .i64 0] 40 (0, 0))

theorem plain_idx : ∀ l : B, Lib.indexAny l sq = if plainLen l = l.length then -1 else (plainLen l : Int)
  | [] => rfl
  | c :: t => by
    have ih := plain_idx t
    unfold Lib.indexAny plainLen
    by_cases h : c = 32 ∨ c = 34
    · have : sq.contains c = true := by rcases h with rfl | rfl <;> decide
      rw [if_pos this, if_pos h]
      simp
    · have : sq.contains c = false := by
        rw [Bool.eq_false_iff]; intro e
        have e1 : c ∈ sq := List.contains_iff_mem.1 e
        exact h (by simpa [sq] using e1)
      rw [if_neg (by rw [this]; exact Bool.false_ne_true), if_neg h, ih]
      by_cases h1 : plainLen t = t.length
      · simp [h1]
      · have h2 : ¬ ((plainLen t : Int) == -1) = true := by simp
        rw [if_neg h1, if_neg h2, if_neg (by simpa using h1)]
        omega

theorem plain_le : ∀ l : B, plainLen l ≤ l.length
  | [] => Nat.le_refl _
  | c :: t => by
    have ih := plain_le t
    unfold plainLen
    split
    · simp
    · simp; exact ih

theorem plain_stop : ∀ l : B, (h : plainLen l < l.length) → l[plainLen l] = 32 ∨ l[plainLen l] = 34
  | [], h => by simp at h
  | c :: t, h => by
    by_cases hc : c = 32 ∨ c = 34
    · simp only [plainLen, if_pos hc]; simpa using hc
    · simp only [plainLen, if_neg hc] at h ⊢
      simpa using plain_stop t (by simpa using h)

theorem plain_one {c : UInt8} (t : B) (h : ¬ c = 32) (h2 : ¬ c = 34) : plainLen (c :: t) = plainLen t + 1 := by simp [plainLen, h, h2]

theorem unq_len (l : B) (i : Nat) (out : B) : ∀ x k, unq l i out = some (x, k) → i < k ∧ k ≤ i + l.length := by
  induction l, i, out using unq.induct
  case case7 c i out h1 h2 h3 a b t2 x y hy hx hd ih =>
    intro z k h
    have e : unq (c :: 120 :: a :: b :: t2) i out = unq t2 (i + 4) (out ++ [UInt8.ofNat (x * 16 + y)]) := by
      rw [unq.eq_def]
      simp only [h1, if_false, h2, h3, hd, hx, hy, if_true]
    have := ih z k (by rw [← e]; exact h)
    simp only [List.length_cons]
    omega
  all_goals intro x k h; rw [unq.eq_def] at h
  all_goals simp_all
  all_goals omega

/-- what cut makes of a line behind its blanks -/
def cutR (n : Nat) : B → Option (List Field)
  | [] => some []
  | c :: t =>
    if c = 34 then
      match unq t 0 [] with
      | none => none
      | some (x, k) => if (t.drop k).head?.getD 32 = 32 then (cutF n (t.drop k)).map (⟨x, true⟩ :: ·) else none
    else if ((c :: t).drop (plainLen (c :: t))).head?.getD 32 = 34 then none
    else (cutF n ((c :: t).drop (plainLen (c :: t)))).map (⟨(c :: t).take (plainLen (c :: t)), false⟩ :: ·)

theorem cutF_R (n : Nat) (s : B) : cutF (n + 1) s = cutR n (s.drop (blanks s)) := by
  rw [cutF]
  unfold cutR
  cases s.drop (blanks s) <;> rfl

theorem blanks_one (t : B) : blanks (32 :: t) = blanks t + 1 := rfl
theorem blanks_not {c : UInt8} (t : B) (h : ¬ c = 32) : blanks (c :: t) = 0 := by simp [blanks, h]

theorem list_lit {l : List Value} {n : Nat} (h : l.length = n) : l = (List.range n).map fun i => l.getD i undef := by
  apply List.ext_getElem
  · simp [h]
  · intro i h1 h2
    simp [List.getD_eq_getElem?_getD, h1]

/-- at the label: these fields so far, k bytes read -/
def CutAt (B0 : Nat) (w : World) (s : ByteArray) (a : Go.Act) (W : World) : Prop :=
  ∃ (k : Nat) (v : Value) (fs : List Field) (n : Nat), a.tmps.size = 102 ∧ a.tmps[0]? = some (.string s) ∧ a.tmps[4]? = some v ∧ a.tmps[5]? = some (.int .i64 k) ∧ a.defers = [] ∧ k ≤ s.size ∧ W.ownsRow B0 95 2 v fs.length (fcells fs) ∧ fs.length ≤ k ∧ B0 ≤ W.heap.size ∧ Below B0 w W ∧
    s.size - k ≤ n ∧ (cutF (n + 1) (s.data.toList.drop k)).map (fs ++ ·) = cut s.data.toList

theorem frame_at {s : ByteArray} {k : Nat} {v : Value} {a : Go.Act} (hz : a.tmps.size = 102) (h0 : a.tmps[0]? = some (.string s)) (h4 : a.tmps[4]? = some v) (h5 : a.tmps[5]? = some (.int .i64 k)) (hd : a.defers = []) :
    ∃ U : Nat → Value, a = { tmps := #[.string s, U 1, U 2, U 3, v, .int .i64 k, U 6, U 7, U 8, U 9, U 10, U 11, U 12, U 13, U 14, U 15, U 16, U 17, U 18, U 19, U 20, U 21, U 22, U 23, U 24, U 25, U 26, U 27, U 28, U 29, U 30, U 31, U 32, U 33, U 34, U 35, U 36, U 37, U 38, U 39, U 40, U 41, U 42, U 43, U 44, U 45, U 46, U 47, U 48, U 49, U 50, U 51, U 52, U 53, U 54, U 55, U 56, U 57, U 58, U 59, U 60, U 61, U 62, U 63, U 64, U 65, U 66, U 67, U 68, U 69, U 70, U 71, U 72, U 73, U 74, U 75, U 76, U 77, U 78, U 79, U 80, U 81, U 82, U 83, U 84, U 85, U 86, U 87, U 88, U 89, U 90, U 91, U 92, U 93, U 94, U 95, U 96, U 97, U 98, U 99, U 100, U 101], defers := [] } := by
  obtain ⟨⟨l⟩, d⟩ := a
  subst hd
  refine ⟨fun i => l.getD i undef, ?_⟩
  simp only [List.size_toArray] at hz
  have e := list_lit hz
  have e0 : l.getD 0 undef = .string s := by simp [List.getD_eq_getElem?_getD] at h0 ⊢; simp [h0]
  have e4 : l.getD 4 undef = v := by simp [List.getD_eq_getElem?_getD] at h4 ⊢; simp [h4]
  have e5 : l.getD 5 undef = .int .i64 k := by simp [List.getD_eq_getElem?_getD] at h5 ⊢; simp [h5]
  rw [← e0, ← e4, ← e5]
  conv => lhs; rw [e]
  rfl

theorem fc_app (l : List Field) (f : Field) : fcells (l ++ [f]) = fcells l ++ [.string ⟨f.text.toArray⟩, .bool f.quoted] := by simp [fcells]
/-- one field more -/
theorem cut_more {n : Nat} {r : B} {fs : List Field} {f : Field} {o : Option (List Field)} (h : ((cutF n r).map (f :: ·)).map (fs ++ ·) = o) : (cutF n r).map (fs ++ [f] ++ ·) = o := by
  rw [← h, Option.map_map]; congr 1; funext x; simp

theorem ext_list (s : ByteArray) (m : Nat) : (s.extract m s.size).data.toList = s.data.toList.drop m := by
  simp only [Lib.extract_data]; rw [List.take_of_length_le (by simp)]
theorem ext_size (s : ByteArray) (m : Nat) : (s.extract m s.size).size ≤ s.size := by
  simp only [ByteArray.size_extract]; omega
theorem indexAny_at (s : ByteArray) (m : Nat) (hs : s.size ≤ 1048576) (n : Int) (w : World) (h : Lib.indexAny (s.data.toList.drop m) sq = n) :
    Calls Tryz.prog 36 #[.string (s.extract m s.size), .string ⟨#[32, 34]⟩] w fun e w' => e = .returned (.int .i64 n) ∧ Below w.heap.size w w' := by
  have := indexAny_all (s.extract m s.size) w (Nat.le_trans (ext_size s m) hs)
  rwa [ext_list, h] at this
theorem unquote_none (s : ByteArray) (m : Nat) (hs : s.size ≤ 1048576) (w : World) (h : unq (s.data.toList.drop m) 0 [] = none) :
    Calls Tryz.prog 34 #[.string (s.extract m s.size)] w fun e w' => e = .returned (.tuple #[.string ⟨#[]⟩, .int .i64 0, .bool false]) ∧ Below w.heap.size w w' := by
  have := unquote_any (s.extract m s.size) w (Nat.le_trans (ext_size s m) hs)
  rwa [ext_list, h] at this
theorem unquote_some (s : ByteArray) (m : Nat) (hs : s.size ≤ 1048576) (x : B) (k : Nat) (w : World) (h : unq (s.data.toList.drop m) 0 [] = some (x, k)) :
    Calls Tryz.prog 34 #[.string (s.extract m s.size)] w fun e w' => e = .returned (.tuple #[.string ⟨x.toArray⟩, .int .i64 k, .bool true]) ∧ Below w.heap.size w w' := by
  have := unquote_any (s.extract m s.size) w (Nat.le_trans (ext_size s m) hs)
  rwa [ext_list, h] at this

theorem cut_wrong {B0 : Nat} {w w1 : World} {o : Option (List Field)} (hb : Below B0 w w1) (hB : B0 ≤ w1.heap.size) (h : o = none) :
    CutPost B0 w o (.returned (.tuple #[.slice none 0 0, .iface 82 (.pointer (some ⟨w1.heap.size, 0, none⟩))])) (w1.alloc (.cells #[.int .i64 160, .int .i64 0] 40)) := by
  subst h
  refine ⟨hb.alloc hB _, w1.heap.size, rfl, hB, ?_⟩
  show (w1.heap.push _)[w1.heap.size]? = _
  simp
theorem cutR_bad (n : Nat) (t : B) (h : unq t 0 [] = none) : cutR n (34 :: t) = none := by simp [cutR, h]
theorem cutR_q (n : Nat) (t : B) (x : B) (j : Nat) (h : unq t 0 [] = some (x, j)) : cutR n (34 :: t) = if (t.drop j).head?.getD 32 = 32 then (cutF n (t.drop j)).map (⟨x, true⟩ :: ·) else none := by simp [cutR, h]
theorem cutR_plain (n : Nat) (l : B) (c : UInt8) (t : B) (h : l = c :: t) (hc : ¬ c = 34) : cutR n l = if (l.drop (plainLen l)).head?.getD 32 = 34 then none else (cutF n (l.drop (plainLen l))).map (⟨l.take (plainLen l), false⟩ :: ·) := by
  subst h; simp only [cutR, hc, if_false]
theorem ext_take (s : ByteArray) (m p : Nat) (z : Nat) (hz : z = m + p) : (⟨((s.data.toList.drop m).take p).toArray⟩ : ByteArray) = s.extract m z := by
  subst hz
  have : (s.extract m (m + p)).data.toList = (s.data.toList.drop m).take p := by
    simp only [Lib.extract_data]; congr 1; omega
  rw [← this]
theorem int_at {o : Option Value} {a b : Int} (h : o = some (.int .i64 a)) (e : a = b) : o = some (.int .i64 b) := by rw [h, e]
theorem meas_at {v v' : Value} {S k : Nat} {x : Int} (h : v = .int .i64 x) (h' : v' = .int .i64 (k : Int)) (hx : (k : Int) < x) (hk : k < S) : S - (intOf v).toNat < S - (intOf v').toNat := by
  rw [h, h']; simp only [intOf]; omega
theorem own_to {w : World} {B e size n m : Nat} {v : Value} {xs ys : List Value} (h : w.ownsRow B e size v n xs) (e1 : n = m) (e2 : xs = ys) : w.ownsRow B e size v m ys := by subst e1; subst e2; exact h
end Go.Proofs.YtmkmkccdlopogaaGreatDoor.Con
