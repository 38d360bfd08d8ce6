/- strings.IndexAny at the two bytes ' ' and '"', whatever the text. -/
import Derived.Test.YtmkmkccdlopogaaGreatDoorProg
import Derived.Test.YtmkmkccdlopogaaGreatDoorConH
import Derived.Laws.Runes
import Derived.Lib.TrimU
import Derived.Test.YtmkmkccdlopogaaGreatDoorConG
set_option linter.unusedVariables false
set_option linter.unusedSimpArgs false
namespace Go.Proofs.YtmkmkccdlopogaaGreatDoor.Con
open Go.RowKit

set_option maxRecDepth 100000 in
set_option maxHeartbeats 1000000 in
theorem rune_invalid (r : Int) (w : World) (h : 128 ≤ r) (h2 : r ≤ 1114111) (hne : ¬ r = 65533) (hv : Lib.validRune r = false) :
    Calls Tryz.prog 53 #[.string ⟨#[32, 34]⟩, .int .i32 r] w fun e w' => e = .returned (.int .i64 (-1)) ∧ w = w' := by
  have t1 : (r == 65533) = false := by rw [beq_eq_false_iff_ne]; exact hne
  go_enter Tryz.func53, Tryz.ntmps53
  go_wp2_with (go_at_call 74; refine (Tryz.utf8_ValidRune _ _).mono ?_; rintro e w' ⟨rfl, rfl⟩)
  go_ret
  exact ⟨rfl, rfl⟩

theorem idx_none (c : Int) (w : World) : Calls Tryz.prog 52 #[.string ByteArray.empty, .int .u8 c] w fun e w' => e = .returned (.int .i64 (-1)) ∧ w' = w :=
  Tryz.strings_IndexByte _ _ w

set_option maxRecDepth 100000 in
set_option maxHeartbeats 1000000 in
theorem rune_valid (r : Int) (w : World) (h : 128 ≤ r) (h2 : r ≤ 1114111) (hne : ¬ r = 65533) (hv : Lib.validRune r = true) :
    Calls Tryz.prog 53 #[.string ⟨#[32, 34]⟩, .int .i32 r] w fun e w' => e = .returned (.int .i64 (-1)) ∧ Below w.heap.size w w' := by
  have t1 : (r == 65533) = false := by rw [beq_eq_false_iff_ne]; exact hne
  have ef := encode_facts r (by rw [validRune_eq]; exact hv) h
  generalize he : Utf8.encode r = e at ef
  have HE := Lib.hid he
  clear he
  obtain ⟨e1, e2, e3⟩ := ef
  have hcv : ∀ (W : World), (convert 21 9 (.int .i32 r)).run Tryz.prog W = .ok (.string e) W := fun W => by
    rw [← HE.out]; exact run_convert_int_string W 21 9 .i32 r (by kernel_rfl) Tryz.underlying9
  go_enter Tryz.func53, Tryz.ntmps53
  by_cases h3 : e.size = 2
  · go_wp2_with (go_at_call 74; refine (Tryz.utf8_ValidRune _ _).mono ?_; rintro e w' ⟨rfl, rfl⟩)
    go_step3
    go_wp2_with fail
    refine wp_loop_rounds 1 ?_
    rw [rounds_succ]
    go_wp2_with fail
    go_step3
    go_wp2_with fail
    have e4 : 128 ≤ (e[1]'(by omega)).toNat := by have := e3 (by omega); simpa [h3] using this
    have e5 := (e[1]'(by omega)).toNat_lt
    have g1 : ∀ h, (ByteArray.mk #[32, 34])[1]'h = 34 := fun _ => rfl
    have t2 : ((34 : Int) != ((e[1]'(by omega)).toNat : Int)) = true := by simp; omega
    go_quiet (fail)
    go_wp2_with fail
    have hw2 : IntKind.i64.wrap 2 = 2 := IntWalk.i64_in _ (by omega)
    go_quiet ((go_at_call 52; exact (idx_none _ _).mono fun e w2 ⟨he, hw⟩ => ⟨he, _, hw⟩))
    go_wp2_with fail
    repeat (first | rw [Exit.noGoto_ret] | simp only [Exit.inBlock, Exit.then])
    go_ret
    exact ⟨rfl, pw_drewN (Below.refl _ _) _⟩
  · go_wp2_with (go_at_call 74; refine (Tryz.utf8_ValidRune _ _).mono ?_; rintro e w' ⟨rfl, rfl⟩)
    go_step3
    go_wp2_with fail
    refine wp_loop_rounds 1 ?_
    rw [rounds_succ]
    go_wp2_with fail
    rw [Exit.noGoto_ret]
    go_ret
    exact ⟨rfl, Below.refl _ _⟩

set_option maxRecDepth 100000 in
set_option maxHeartbeats 1000000 in
theorem rune_err (w : World) :
    Calls Tryz.prog 53 #[.string ⟨#[32, 34]⟩, .int .i32 65533] w fun e w' => e = .returned (.int .i64 (-1)) ∧ Below w.heap.size w w' := by
  go_enter Tryz.func53, Tryz.ntmps53
  go_wp2_with fail
  have n0 : (Instr.next (.pointer (some ⟨w.heap.size, 0, none⟩)) true 0).run Tryz.prog (w.iter ⟨#[32, 34]⟩ 0) = .ok (.tuple #[.bool true, .int .i64 0, .int .i32 32]) (w.iter ⟨#[32, 34]⟩ 1) := run_next_ascii w ⟨#[32, 34]⟩ 0 0 (by decide) (by decide)
  have n1 : (Instr.next (.pointer (some ⟨w.heap.size, 0, none⟩)) true 0).run Tryz.prog (w.iter ⟨#[32, 34]⟩ 1) = .ok (.tuple #[.bool true, .int .i64 1, .int .i32 34]) (w.iter ⟨#[32, 34]⟩ 2) := run_next_ascii w ⟨#[32, 34]⟩ 1 0 (by decide) (by decide)
  have n2 : (Instr.next (.pointer (some ⟨w.heap.size, 0, none⟩)) true 0).run Tryz.prog (w.iter ⟨#[32, 34]⟩ 2) = .ok (.tuple #[.bool false]) (w.iter ⟨#[32, 34]⟩ 2) := run_next_end w ⟨#[32, 34]⟩ 2 0 (by decide)
  refine wp_loop_rounds 3 ?_
  rw [rounds_succ]
  go_wp2_with fail
  rw [rounds_succ]
  go_wp2_with fail
  rw [rounds_succ]
  go_wp2_with fail
  go_ret
  exact ⟨rfl, (Below.refl _ _).alloc (Nat.le_refl _) _⟩

theorem rune_wide (r : Int) (w : World) (h : 128 ≤ r) (h2 : r ≤ 1114111) :
    Calls Tryz.prog 53 #[.string ⟨#[32, 34]⟩, .int .i32 r] w fun e w' => e = .returned (.int .i64 (-1)) ∧ Below w.heap.size w w' := by
  by_cases hne : r = 65533
  · subst hne; exact rune_err w
  · cases hv : Lib.validRune r with
    | true => exact rune_valid r w h h2 hne hv
    | false => exact (rune_invalid r w h h2 hne hv).mono fun e w' ⟨he, hw⟩ => ⟨he, hw ▸ Below.refl _ _⟩

/-- what is decoded where a byte beyond ASCII stands: a rune beyond ASCII, of bytes beyond ASCII -/
theorem dec_wide (s : ByteArray) (p : Nat) (hp : p < s.size) (hb : 128 ≤ (s.get! p).toNat) :
    128 ≤ (Utf8.decode s p).1 ∧ 1 ≤ (Utf8.decode s p).2 ∧ p + (Utf8.decode s p).2 ≤ s.size ∧ ∀ j, j < (Utf8.decode s p).2 → 128 ≤ (s.get! (p + j)).toNat := by
  have one : ∀ x : Nat × Nat, x = (65533, 1) → 128 ≤ x.1 ∧ 1 ≤ x.2 ∧ p + x.2 ≤ s.size ∧ ∀ j, j < x.2 → 128 ≤ (s.get! (p + j)).toNat := by
    rintro x rfl
    exact ⟨by decide, by decide, by show p + 1 ≤ _; omega, fun j hj => by
      have e : j = 0 := by simpa using hj
      subst e
      exact hb⟩
  unfold Utf8.decode
  simp only [Nat.add_zero]
  split
  · omega
  split
  · rename_i h1
    simp only [Bool.and_eq_true, decide_eq_true_eq, beq_iff_eq] at h1
    split
    · refine ⟨by show 128 ≤ _; omega, by show 1 ≤ 2; omega, by show p + 2 ≤ _; omega, fun j hj => ?_⟩
      match j, hj with
      | 0, _ => exact hb
      | 1, _ => omega
    · exact one _ rfl
  split
  · rename_i h1
    simp only [Bool.and_eq_true, decide_eq_true_eq, beq_iff_eq] at h1
    split
    · rename_i h2
      simp only [Bool.and_eq_true, decide_eq_true_eq, ge_iff_le] at h2
      refine ⟨by show 128 ≤ _; omega, by show 1 ≤ 3; omega, by show p + 3 ≤ _; omega, fun j hj => ?_⟩
      match j, hj with
      | 0, _ => exact hb
      | 1, _ => omega
      | 2, _ => omega
    · exact one _ rfl
  split
  · rename_i h1
    simp only [Bool.and_eq_true, decide_eq_true_eq, beq_iff_eq] at h1
    split
    · rename_i h2
      simp only [Bool.and_eq_true, decide_eq_true_eq, ge_iff_le] at h2
      refine ⟨by show 128 ≤ _; omega, by show 1 ≤ 4; omega, by show p + 4 ≤ _; omega, fun j hj => ?_⟩
      match j, hj with
      | 0, _ => exact hb
      | 1, _ => omega
      | 2, _ => omega
      | 3, _ => omega
    · exact one _ rfl
  · exact one _ rfl

def sq : B := [32, 34]
theorem noAny_skip {s : ByteArray} {p n : Nat} (h : Lib.NoAny s.data.toList sq p) (hb : ∀ j, j < n → 128 ≤ (s.get! (p + j)).toNat) (hn : p + n ≤ s.size) : Lib.NoAny s.data.toList sq (p + n) := by
  intro j b hj hjb
  by_cases h1 : j < p
  · exact h j b h1 hjb
  · have := hb (j - p) (by omega)
    rw [show p + (j - p) = j by omega] at this
    have e : s.get! j = b := by
      have hlt : j < s.data.toList.length := by have := Lib.size_eq s; omega
      rw [List.getElem?_eq_getElem hlt] at hjb
      have e2 : s.get! j = s.data[j]'(by simpa using hlt) := by
        show s.data[j]! = _
        rw [getElem!_pos]
      rw [e2]
      simpa using hjb
    rw [e] at this
    have h32 : b ≠ 32 := by intro e; subst e; simp at this
    have h34 : b ≠ 34 := by intro e; subst e; simp at this
    simp [sq, h32, h34]

theorem contains_rune (x : UInt8) (hx : x.toNat < 128) (w : World) (b : Bool) (hb : sq.contains x = b) :
    Calls Tryz.prog 53 #[.string ⟨#[32, 34]⟩, .int .i32 x.toNat] w fun e w' => (∃ n : Int, e = .returned (.int .i64 n) ∧ decide (0 ≤ n) = b) ∧ Below w.heap.size w w' := by
  refine (Tryz.strings_IndexRune_ascii _ _ w (by omega) (by omega)).mono fun e w' ⟨he, hw⟩ => ⟨⟨_, he, ?_⟩, hw ▸ Below.refl _ _⟩
  have hcon := Lib.contains_iff_indexByte sq x
  have hback : ((x.toNat : Int)).toNat.toUInt8 = x := by simp
  rw [hback, ← hb, hcon]
  rfl

set_option maxRecDepth 100000 in
set_option maxHeartbeats 2000000 in
theorem indexAny_short (s : ByteArray) (w : World) (h8 : s.size ≤ 8) :
    Calls Tryz.prog 36 #[.string s, .string ⟨#[32, 34]⟩] w fun e w' => e = .returned (.int .i64 (Lib.indexAny s.data.toList sq)) ∧ Below w.heap.size w w' := by
  have h8z : decide ((8 : Int) < (s.size : Int)) = false := decide_eq_false (by omega)
  go_enter Tryz.func36, Tryz.ntmps36
  go_wp2_with (go_at_call 54; refine (Tryz.strings_shouldUseASCIISet _ _).mono ?_; rintro e w' ⟨rfl, hw⟩; rw [hw, h8z])
  go_loopg [9, 10] s.size (fun g _ _ wx => ∃ i : Nat, i + g = s.size ∧ wx.heap[w.heap.size]? = some (.stringIter s i) ∧ Below w.heap.size w wx ∧ Lib.NoAny s.data.toList sq i)
  case atStart => exact ⟨0, by omega, by simp [World.iter_heap], (Below.refl _ _).alloc (Nat.le_refl _) _, Lib.NoAny.zero _ _⟩
  case round =>
    obtain ⟨i, hig, hit, hbw, hno⟩ := hrel
    have HN := Lib.hid hno
    have HI := Lib.hid hit
    clear hno hit
    have hkw : w.heap.size < wr.heap.size := by
      have := (Array.getElem?_eq_some_iff.1 HI.out).1; exact this
    cases gk with
    | zero =>
      have hie : ¬ i < s.size := by omega
      have hnx := Lib.run_next_end_at (P := Tryz.prog) wr w.heap.size s i 0 HI.out hie
      go_wp2_with fail
      go_ret
      refine ⟨?_, hbw⟩
      have : i = s.size := by omega
      subst this
      rw [Lib.indexAny_none (by rw [← Lib.size_eq]; exact HN.out)]; rfl
    | succ g =>
      have hi : i < s.size := by omega
      obtain ⟨x, hx⟩ : ∃ x : UInt8, s[i]'hi = x := ⟨_, rfl⟩
      have hxl : s.data.toList[i]? = some x := by rw [← hx]; exact Lib.data_getElem? s i hi
      have Hx := Lib.hid hxl
      have HX := Lib.hid hx
      clear hxl hx
      by_cases hx128 : x.toNat < 128
      · have hnx := Lib.run_next_ascii_at (P := Tryz.prog) wr w.heap.size s i 0 HI.out hi (by rw [HX.out]; exact hx128)
        rw [HX.out] at hnx
        have hit2 := Lib.iterAt_heap wr w.heap.size s i (i + 1) HI.out
        have hbw2 := Lib.below_iterAt hbw (Nat.le_refl w.heap.size) s (i + 1)
        have hsz2 := Lib.iterAt_size wr w.heap.size s (i + 1)
        generalize wr.iterAt w.heap.size s (i + 1) = W2 at hnx hit2 hbw2 hsz2
        have HI2 := Lib.hid hit2
        have HS2 := Lib.hid hsz2
        clear hit2 hsz2
        cases hin : sq.contains x
        · have HC := Lib.hid hin
          clear hin
          go_wp2_with (go_at_call 53; refine (contains_rune x hx128 _ _ HC.out).mono ?_; rintro e w1 ⟨⟨n, rfl, hn⟩, hb1⟩)
          go_roundg g
          case measure => omega
          case rel => exact ⟨i + 1, by omega, by rw [hb1.block _ (by rw [HS2.out]; exact hkw)]; exact HI2.out, hbw2.trans (hb1.mono (by rw [HS2.out]; omega)), HN.out.succ Hx.out HC.out⟩
        · have HC := Lib.hid hin
          clear hin
          go_wp2_with (go_at_call 53; refine (contains_rune x hx128 _ _ HC.out).mono ?_; rintro e w1 ⟨⟨n, rfl, hn⟩, hb1⟩)
          go_ret
          refine ⟨?_, hbw2.trans (hb1.mono (by rw [HS2.out]; omega))⟩
          rw [Lib.indexAny_hit HN.out Hx.out HC.out]; rfl
      · have hget : s.get! i = x := by
          have e2 : s.get! i = s[i]'hi := by
            show s.data[i]! = _
            rw [getElem!_pos]; rfl
          rw [e2, HX.out]
        obtain ⟨d1, d2, d3, d4⟩ := dec_wide s i hi (by rw [hget]; omega)
        have hr := Lib.rune_le s i
        have hnx := Lib.run_next_any_at (P := Tryz.prog) wr w.heap.size s i 0 HI.out hi
        have hno2 := noAny_skip HN.out d4 d3
        have hit2 := Lib.iterAt_heap wr w.heap.size s i (i + (Utf8.decode s i).2) HI.out
        have hbw2 := Lib.below_iterAt hbw (Nat.le_refl w.heap.size) s (i + (Utf8.decode s i).2)
        have hsz2 := Lib.iterAt_size wr w.heap.size s (i + (Utf8.decode s i).2)
        generalize (Utf8.decode s i).1 = r at hnx d1 hr
        generalize (Utf8.decode s i).2 = k at hnx d2 d3 hno2 hit2 hbw2 hsz2
        clear d4 hget
        generalize wr.iterAt w.heap.size s (i + k) = W2 at hnx hit2 hbw2 hsz2
        have HI2 := Lib.hid hit2
        have HS2 := Lib.hid hsz2
        have HN2 := Lib.hid hno2
        clear hit2 hsz2 hno2
        go_wp2_with (go_at_call 53; refine (rune_wide _ _ (by omega) (by omega)).mono ?_; rintro e w1 ⟨rfl, hb1⟩)
        go_roundg (s.size - (i + k))
        case measure => omega
        case rel => exact ⟨i + k, by omega, by rw [hb1.block _ (by rw [HS2.out]; exact hkw)]; exact HI2.out, hbw2.trans (hb1.mono (by rw [HS2.out]; omega)), HN2.out⟩

theorem indexAny_all (s : ByteArray) (w : World) (hs : s.size ≤ 1048576) :
    Calls Tryz.prog 36 #[.string s, .string ⟨#[32, 34]⟩] w fun e w' => e = .returned (.int .i64 (Lib.indexAny s.data.toList sq)) ∧ Below w.heap.size w w' := by
  by_cases h8 : s.size ≤ 8
  · exact indexAny_short s w h8
  · refine (Tryz.strings_IndexAny_long (fun w => by kernel_rfl) s ⟨#[32, 34]⟩ w (by decide) (by omega) (by omega) (by decide) (ascii_of_all (by decide))).mono fun e w' ⟨he, hw⟩ => ⟨he, ?_⟩
    rw [hw]
    exact ((Below.refl _ _).alloc (Nat.le_refl _) _).alloc (by simp) _
end Go.Proofs.YtmkmkccdlopogaaGreatDoor.Con
