/- The walks of the console's readers of bytes: unquote. -/
import Derived.Test.YtmkmkccdlopogaaGreatDoorProg
import Derived.Test.YtmkmkccdlopogaaGreatDoorShelf
import Derived.Test.YtmkmkccdlopogaaGreatDoorConF
import Derived.Test.YtmkmkccdlopogaaGreatDoorConA
set_option linter.unusedVariables false
set_option linter.unusedSimpArgs false
namespace Go.Proofs.YtmkmkccdlopogaaGreatDoor.Con
open Go.RowKit

theorem info5 : (Tryz.prog.info? 5).map (fun i => (i.zero, i.size, i.bytes)) = some (some (.int .u8 0), 1, 1) := by kernel_rfl

theorem hasPrefix_at (s : ByteArray) (k : Nat) (p : ByteArray) (b : Bool) (w : World) (h : p.data.toList.isPrefixOf (s.data.toList.drop k) = b) :
    Calls Tryz.prog 24 #[.string (s.extract k s.size), .string p] w fun e w' => e = .returned (.bool b) ∧ w = w' :=
  (Tryz.strings_HasPrefix _ _ w).mono fun e w' ⟨he, hw⟩ => ⟨by rw [he, ← h]; congr 2; simp only [Lib.hasPrefix, Lib.extract_data]; rw [List.take_of_length_le (by simp)], hw.symm⟩

theorem pre2 (a b c d : UInt8) (t : B) : (ByteArray.mk #[a, b]).data.toList.isPrefixOf (c :: d :: t) = (a == c && b == d) := by simp [List.isPrefixOf]
theorem pre1 (a b c : UInt8) : (ByteArray.mk #[a, b]).data.toList.isPrefixOf [c] = false := by simp [List.isPrefixOf]
theorem pre2f (a b c d : UInt8) (t : B) (h : ¬ d = b) : (ByteArray.mk #[a, b]).data.toList.isPrefixOf (c :: d :: t) = false := by
  rw [pre2]; have : (b == d) = false := by rw [beq_eq_false_iff_ne]; exact fun e => h e.symm
  rw [this, Bool.and_false]

def hexI (c : UInt8) : Int := match hexv c with | some n => n | none => -1
theorem hexv_le {c : UInt8} {n : Nat} (h : hexv c = some n) : n ≤ 15 := by
  unfold hexv at h
  split at h
  · simp only [Option.some.injEq] at h; omega
  · split at h
    · simp only [Option.some.injEq] at h; omega
    · simp at h
theorem pw_drewN {B0 : Nat} {w W : World} (h : Below B0 w W) (n : Nat) : Below B0 w (W.drewN n) := ⟨h.os, h.tape, h.output, h.size, h.block⟩

theorem own_drewN {w : World} {B0 e size n : Nat} {v : Value} {xs : List Value} (h : w.ownsRow B0 e size v n xs) (m : Nat) : (w.drewN m).ownsRow B0 e size v n xs := h
theorem or_fin : ∀ x y : Fin 16, (bits BinOp.or IntKind.i64 ((x.val : Int) * 16) (y.val : Int)) % 256 = ((x.val * 16 + y.val : Nat) : Int) := by decide +kernel
theorem or_hex (x y : Nat) (hx : x ≤ 15) (hy : y ≤ 15) : Value.int .u8 ((bits BinOp.or IntKind.i64 ((x : Int) * 16) (y : Int)) % 256) = .int .u8 (UInt8.ofNat (x * 16 + y)).toNat := by
  rw [or_fin ⟨x, by omega⟩ ⟨y, by omega⟩]
  have : (UInt8.ofNat (x * 16 + y)).toNat = x * 16 + y := by simp; omega
  rw [this]

theorem indexHex_fin : ∀ i : Fin 256, Lib.indexByte [48, 49, 50, 51, 52, 53, 54, 55, 56, 57, 65, 66, 67, 68, 69, 70] (UInt8.ofNat i.val) = hexI (UInt8.ofNat i.val) := by decide +kernel
theorem indexHex_at (c : Nat) (h : c < 256) (n : Int) (hn : hexI (UInt8.ofNat c) = n) (w : World) :
    Calls Tryz.prog 52 #[.string ⟨#[48, 49, 50, 51, 52, 53, 54, 55, 56, 57, 65, 66, 67, 68, 69, 70]⟩, .int .u8 (c : Int)] w fun e w' => e = .returned (.int .i64 n) ∧ w' = w := by
  refine (Tryz.strings_IndexByte _ _ w).mono fun e w' ⟨he, hw⟩ => ⟨?_, hw⟩
  rw [he, ← hn]
  have := indexHex_fin ⟨c, h⟩
  have e2 : (c : Int).toNat.toUInt8 = UInt8.ofNat c := by simp
  rw [e2]
  exact ret_int this

def retUnq : Option (B × Nat) → Value
  | none => .tuple #[.string ⟨#[]⟩, .int .i64 0, .bool false]
  | some (x, k) => .tuple #[.string ⟨x.toArray⟩, .int .i64 k, .bool true]

theorem unq_end (t : B) (i : Nat) (out : B) : unq (34 :: t) i out = some (out, i + 1) := by rw [unq.eq_def]; simp
theorem unq_ctl {c : UInt8} (t : B) (i : Nat) (out : B) (h : ¬ c = 34) (h2 : c.toNat < 32 ∨ 126 < c.toNat) : unq (c :: t) i out = none := by rw [unq.eq_def]; simp only [h, if_false, h2, if_true]
theorem unq_plain {c : UInt8} (t : B) (i : Nat) (out : B) (h : ¬ c = 34) (h2 : ¬ (c.toNat < 32 ∨ 126 < c.toNat)) (h3 : c ≠ 92) : unq (c :: t) i out = unq t (i + 1) (out ++ [c]) := by
  conv => lhs; rw [unq.eq_def]
  simp only [h, if_false, h2, ne_eq, h3, not_false_eq_true, if_true]
theorem unq_pair {d : UInt8} (t : B) (i : Nat) (out : B) (h : d = 34 ∨ d = 92) : unq (92 :: d :: t) i out = unq t (i + 2) (out ++ [d]) := by
  conv => lhs; rw [unq.eq_def]
  simp only [show ((92 : UInt8) = 34) = False by decide, if_false, show ((92 : UInt8).toNat < 32 ∨ 126 < (92 : UInt8).toNat) = False by decide, ne_eq, not_true_eq_false, h, if_true]
theorem unq_bad {d : UInt8} (t : B) (i : Nat) (out : B) (h : ¬ (d = 34 ∨ d = 92)) (h2 : ¬ d = 120) : unq (92 :: d :: t) i out = none := by
  rw [unq.eq_def]
  simp only [show ((92 : UInt8) = 34) = False by decide, if_false, show ((92 : UInt8).toNat < 32 ∨ 126 < (92 : UInt8).toNat) = False by decide, ne_eq, not_true_eq_false, h, h2]
theorem unq_hex {a b : UInt8} {x y : Nat} (t : B) (i : Nat) (out : B) (ha : hexv a = some x) (hb : hexv b = some y) : unq (92 :: 120 :: a :: b :: t) i out = unq t (i + 4) (out ++ [UInt8.ofNat (x * 16 + y)]) := by
  conv => lhs; rw [unq.eq_def]
  simp only [show ((92 : UInt8) = 34) = False by decide, if_false, show ((92 : UInt8).toNat < 32 ∨ 126 < (92 : UInt8).toNat) = False by decide, ne_eq, not_true_eq_false,
    show ((120 : UInt8) = 34 ∨ (120 : UInt8) = 92) = False by decide, if_true, ha, hb]
theorem unq_nohex {a b : UInt8} (t : B) (i : Nat) (out : B) (h : hexv a = none ∨ hexv b = none) : unq (92 :: 120 :: a :: b :: t) i out = none := by
  rw [unq.eq_def]
  simp only [show ((92 : UInt8) = 34) = False by decide, if_false, show ((92 : UInt8).toNat < 32 ∨ 126 < (92 : UInt8).toNat) = False by decide, ne_eq, not_true_eq_false,
    show ((120 : UInt8) = 34 ∨ (120 : UInt8) = 92) = False by decide, if_true]
  rcases h with h | h
  · simp [h]
  · rw [h]; cases hexv a <;> rfl
theorem unq_short (t : B) (i : Nat) (out : B) (h : t.length < 2) : unq (92 :: 120 :: t) i out = none := by
  rw [unq.eq_def]
  simp only [show ((92 : UInt8) = 34) = False by decide, if_false, show ((92 : UInt8).toNat < 32 ∨ 126 < (92 : UInt8).toNat) = False by decide, ne_eq, not_true_eq_false,
    show ((120 : UInt8) = 34 ∨ (120 : UInt8) = 92) = False by decide, if_true]
  match t, h with
  | [], _ => rfl
  | [_], _ => rfl
theorem unq_stroke (i : Nat) (out : B) : unq [92] i out = none := by rw [unq.eq_def]; simp

/-- what the loop knows: so far these bytes, i bytes read -/
def UnqAt (B0 : Nat) (w : World) (s : ByteArray) (v i : Value) (wr : World) : Prop :=
  ∃ (k : Nat) (out : B), k ≤ s.size ∧ i = .int .i64 k ∧ wr.ownsRow B0 5 1 v out.length (Lib.byteCells out) ∧ out.length ≤ k ∧ Below B0 w wr ∧
    unq (s.data.toList.drop k) k out = unq s.data.toList 0 []

set_option maxRecDepth 100000 in
set_option maxHeartbeats 4000000 in
theorem unquote_any (s : ByteArray) (w : World) (hs : s.size ≤ 1048576) :
    Calls Tryz.prog 34 #[.string s] w fun e w' => e = .returned (retUnq (unq s.data.toList 0 [])) ∧ Below w.heap.size w w' := by
  obtain ⟨i0, hi, hz0, hz1, hz2⟩ := info_parts info5
  go_enter Tryz.func34, Tryz.ntmps34
  go_wp2_with fail
  go_loopw [5, 6] (fun v i wr => UnqAt w.heap.size w s v i wr) (fun _ i _ => s.size - (intOf i).toNat)
  case atStart => exact ⟨0, [], Nat.zero_le _, rfl, ⟨by simp [Lib.byteCells], .inl ⟨rfl, rfl⟩⟩, Nat.le_refl _, Below.refl _ _, by simp⟩
  case round =>
    obtain ⟨k, out, hk, rfl, hown, hout, hb, hsem⟩ := hrel
    have Hsem := Lib.hid hsem
    clear hsem
    by_cases hlt : k < s.size
    · have hd := drop_cons s k hlt
      have Hd := Lib.hid hd
      clear hd
      have hc256 := (s[k]).toNat_lt
      by_cases h34 : s[k].toNat = 34
      · have hcv := conv_own (src := 44) (dst := 9) Tryz.underlying44 Tryz.underlying5 Tryz.underlying9 hown
        have t34 : ((s[k].toNat : Int) == 34) = true := by simp [h34]
        go_wp2_with fail
        go_ret3
        refine ⟨?_, hb⟩
        rw [← Hsem.out, Hd.out, unq.eq_def]
        have e : s[k] = 34 := by apply UInt8.toNat_inj.1; rw [h34]; rfl
        simp [e, retUnq]
      · have t34 : ((s[k].toNat : Int) == 34) = false := by rw [beq_eq_false_iff_ne]; omega
        have e34 : ¬ s[k] = 34 := by intro e; rw [e] at h34; exact h34 rfl
        by_cases hr : s[k].toNat < 32 ∨ 126 < s[k].toNat
        · have HR := Lib.hid hr
          by_cases h32 : s[k].toNat < 32
          · go_wp2_with fail
            go_ret3
            refine ⟨?_, hb⟩
            rw [← Hsem.out, Hd.out, unq.eq_def]
            simp [e34, HR.out, retUnq]
          · have h126 : 126 < s[k].toNat := by omega
            clear hr
            go_wp2_with fail
            go_ret3
            refine ⟨?_, hb⟩
            rw [← Hsem.out, Hd.out, unq.eq_def]
            simp [e34, HR.out, retUnq]
        · have HR := Lib.hid hr
          have h32 : ¬ s[k].toNat < 32 := by omega
          have h126 : ¬ 126 < s[k].toNat := by omega
          clear hr
          by_cases h92 : s[k].toNat = 92
          · have t92 : ((s[k].toNat : Int) != 92) = false := by simp; omega
            have e92 : s[k] = 92 := by apply UInt8.toNat_inj.1; rw [h92]; rfl
            by_cases h1 : k + 1 < s.size
            · have hd1 := drop_cons s (k + 1) h1
              have Hd1 := Lib.hid hd1
              clear hd1
              by_cases hq : s[k + 1] = 34
              · have hp1 : (ByteArray.mk #[92, 34]).data.toList.isPrefixOf (s.data.toList.drop k) = true := by rw [Hd.out, Hd1.out]; simp [e92, hq]
                have HP1 := Lib.hid hp1
                have E92 := Lib.hid e92
                have HQ := Lib.hid hq
                clear hp1 e92 hq
                go_wp2_with (first | (go_at_call 24; (with_reducible refine (hasPrefix_at s k _ _ _ HP1.out).mono ?_); rintro e w' ⟨rfl, rfl⟩) | (at_builtin; go_must (refine wp_app1 rfl _ _ 44 rfl w.heap.size (.int .u8 0) 1 1 Tryz.underlying44 info5 rfl (by decide) _ _ _ rfl hown rfl rfl ?c2 ?c3 (by decide) hb.size ?_)))
                case c2 => simp [Value.oneCell']
                case c3 => omega
                intro v' w1 hown' hb1 _
                go_wp2_with fail
                go_roundw
                case rel => exact ⟨k + 2, out ++ [s[k + 1]], by omega, by go_num, by rw [bc_app, bc_one]; simpa using hown', by simp; omega, hb.trans hb1, by rw [← Hsem.out, Hd.out, Hd1.out, E92.out]; exact (unq_pair _ _ _ (.inl HQ.out)).symm⟩
                case measure => simp [intOf]; omega
              · by_cases hq2 : s[k + 1] = 92
                · have hp1 : (ByteArray.mk #[92, 34]).data.toList.isPrefixOf (s.data.toList.drop k) = false := by rw [Hd.out, Hd1.out]; exact pre2f _ _ _ _ _ hq
                  have hp2 : (ByteArray.mk #[92, 92]).data.toList.isPrefixOf (s.data.toList.drop k) = true := by rw [Hd.out, Hd1.out]; simp [e92, hq2]
                  have HP1 := Lib.hid hp1
                  have HP2 := Lib.hid hp2
                  have E92 := Lib.hid e92
                  have HQ := Lib.hid hq2
                  clear hp1 hp2 e92 hq2 hq
                  go_wp2_with (first | (go_at_call 24; (with_reducible refine (hasPrefix_at s k _ _ _ HP1.out).mono ?_); rintro e w' ⟨rfl, rfl⟩) | (go_at_call 24; (with_reducible refine (hasPrefix_at s k _ _ _ HP2.out).mono ?_); rintro e w' ⟨rfl, rfl⟩) | (at_builtin; refine wp_app1 rfl _ _ 44 rfl w.heap.size (.int .u8 0) 1 1 Tryz.underlying44 info5 rfl (by decide) _ _ _ rfl hown rfl rfl ?c2 ?c3 (by decide) hb.size ?_))
                  case c2 => simp [Value.oneCell']
                  case c3 => omega
                  intro v' w1 hown' hb1 _
                  go_wp2_with fail
                  go_roundw
                  case rel => exact ⟨k + 2, out ++ [s[k + 1]], by omega, by go_num, by rw [bc_app, bc_one]; simpa using hown', by simp; omega, hb.trans hb1, by rw [← Hsem.out, Hd.out, Hd1.out, E92.out]; exact (unq_pair _ _ _ (.inr HQ.out)).symm⟩
                  case measure => simp [intOf]; omega
                · have hp1 : (ByteArray.mk #[92, 34]).data.toList.isPrefixOf (s.data.toList.drop k) = false := by rw [Hd.out, Hd1.out]; exact pre2f _ _ _ _ _ hq
                  have hp2 : (ByteArray.mk #[92, 92]).data.toList.isPrefixOf (s.data.toList.drop k) = false := by rw [Hd.out, Hd1.out]; exact pre2f _ _ _ _ _ hq2
                  have HP1 := Lib.hid hp1
                  have HP2 := Lib.hid hp2
                  have E92 := Lib.hid e92
                  have HQ : Hid (¬ (s[k + 1] = 34 ∨ s[k + 1] = 92)) := Lib.hid (fun h => h.elim hq hq2)
                  clear hp1 hp2 hq2 hq e92
                  by_cases hx : s[k + 1] = 120
                  · have hp3 : (ByteArray.mk #[92, 120]).data.toList.isPrefixOf (s.data.toList.drop k) = true := by rw [Hd.out, Hd1.out]; simp [E92.out, hx]
                    have HP3 := Lib.hid hp3
                    have HX := Lib.hid hx
                    clear hp3 hx
                    by_cases h4 : k + 4 ≤ s.size
                    · have h2 : k + 2 < s.size := by omega
                      have h3 : k + 3 < s.size := by omega
                      have hd2 := drop_cons s (k + 2) h2
                      have hd3 := drop_cons s (k + 3) h3
                      have Hd2 := Lib.hid hd2
                      have Hd3 := Lib.hid hd3
                      clear hd2 hd3
                      have hbt2 := (s[k + 2]).toNat_lt
                      have hbt3 := (s[k + 3]).toNat_lt
                      cases hxa : hexv s[k + 2] with
                      | none =>
                        have HA : Hid (hexI (UInt8.ofNat s[k + 2].toNat) = -1) := Lib.hid (by simp [hexI, hxa])
                        have HXA := Lib.hid hxa
                        clear hxa
                        go_wp2_with (first | (go_at_call 24; (with_reducible refine (hasPrefix_at s k _ _ _ HP1.out).mono ?_); rintro e w' ⟨rfl, rfl⟩) | (go_at_call 24; (with_reducible refine (hasPrefix_at s k _ _ _ HP2.out).mono ?_); rintro e w' ⟨rfl, rfl⟩) | (go_at_call 24; (with_reducible refine (hasPrefix_at s k _ _ _ HP3.out).mono ?_); rintro e w' ⟨rfl, rfl⟩))
                        have q1 : IntKind.i64.wrap ((k : Int) + 2) = (k : Int) + 2 := IntWalk.i64_in _ (by omega)
                        have q2 : IntKind.i64.wrap ((k : Int) + 3) = (k : Int) + 3 := IntWalk.i64_in _ (by omega)
                        have q3 : 0 ≤ (k : Int) + 2 := by omega
                        have q4 : 0 ≤ (k : Int) + 3 := by omega
                        have q5 : ((k : Int) + 2).toNat = k + 2 := by omega
                        have q6 : ((k : Int) + 3).toNat = k + 3 := by omega
                        have q7 : (k : Int) + 2 < s.size := by omega
                        have q8 : (k : Int) + 3 < s.size := by omega
                        go_quiet ((go_at_call 52; first | (with_reducible exact Calls.quiet_of_same (indexHex_at _ hbt2 (-1) HA.out _)) | (with_reducible exact Calls.quiet_of_same (indexHex_at _ hbt3 _ rfl _))))
                        clear q1 q2
                        go_wp2_with fail
                        go_ret3
                        refine ⟨?_, pw_drewN hb _⟩
                        rw [← Hsem.out, Hd.out, Hd1.out, E92.out, HX.out, Hd2.out, Hd3.out, unq_nohex _ _ _ (.inl HXA.out)]
                        rfl
                      | some x =>
                        have hx15 : x ≤ 15 := hexv_le hxa
                        have HA : Hid (hexI (UInt8.ofNat s[k + 2].toNat) = (x : Int)) := Lib.hid (by simp [hexI, hxa])
                        have HXA := Lib.hid hxa
                        clear hxa
                        cases hxb : hexv s[k + 3] with
                        | none =>
                          have HB : Hid (hexI (UInt8.ofNat s[k + 3].toNat) = -1) := Lib.hid (by simp [hexI, hxb])
                          have HXB := Lib.hid hxb
                          clear hxb
                          go_wp2_with (first | (go_at_call 24; (with_reducible refine (hasPrefix_at s k _ _ _ HP1.out).mono ?_); rintro e w' ⟨rfl, rfl⟩) | (go_at_call 24; (with_reducible refine (hasPrefix_at s k _ _ _ HP2.out).mono ?_); rintro e w' ⟨rfl, rfl⟩) | (go_at_call 24; (with_reducible refine (hasPrefix_at s k _ _ _ HP3.out).mono ?_); rintro e w' ⟨rfl, rfl⟩))
                          have q1 : IntKind.i64.wrap ((k : Int) + 2) = (k : Int) + 2 := IntWalk.i64_in _ (by omega)
                          have q2 : IntKind.i64.wrap ((k : Int) + 3) = (k : Int) + 3 := IntWalk.i64_in _ (by omega)
                          have q3 : 0 ≤ (k : Int) + 2 := by omega
                          have q4 : 0 ≤ (k : Int) + 3 := by omega
                          have q5 : ((k : Int) + 2).toNat = k + 2 := by omega
                          have q6 : ((k : Int) + 3).toNat = k + 3 := by omega
                          have q7 : (k : Int) + 2 < s.size := by omega
                          have q8 : (k : Int) + 3 < s.size := by omega
                          go_quiet ((go_at_call 52; first | (with_reducible exact Calls.quiet_of_same (indexHex_at _ hbt2 (x : Int) HA.out _)) | (with_reducible exact Calls.quiet_of_same (indexHex_at _ hbt3 (-1) HB.out _))))
                          clear q1 q2
                          go_wp2_with fail
                          go_ret3
                          refine ⟨?_, pw_drewN hb _⟩
                          rw [← Hsem.out, Hd.out, Hd1.out, E92.out, HX.out, Hd2.out, Hd3.out, unq_nohex _ _ _ (.inr HXB.out)]
                          rfl
                        | some y =>
                          have hy15 : y ≤ 15 := hexv_le hxb
                          have HB : Hid (hexI (UInt8.ofNat s[k + 3].toNat) = (y : Int)) := Lib.hid (by simp [hexI, hxb])
                          have HXB := Lib.hid hxb
                          clear hxb
                          go_wp2_with (first | (go_at_call 24; (with_reducible refine (hasPrefix_at s k _ _ _ HP1.out).mono ?_); rintro e w' ⟨rfl, rfl⟩) | (go_at_call 24; (with_reducible refine (hasPrefix_at s k _ _ _ HP2.out).mono ?_); rintro e w' ⟨rfl, rfl⟩) | (go_at_call 24; (with_reducible refine (hasPrefix_at s k _ _ _ HP3.out).mono ?_); rintro e w' ⟨rfl, rfl⟩))
                          have q1 : IntKind.i64.wrap ((k : Int) + 2) = (k : Int) + 2 := IntWalk.i64_in _ (by omega)
                          have q2 : IntKind.i64.wrap ((k : Int) + 3) = (k : Int) + 3 := IntWalk.i64_in _ (by omega)
                          have q3 : 0 ≤ (k : Int) + 2 := by omega
                          have q4 : 0 ≤ (k : Int) + 3 := by omega
                          have q5 : ((k : Int) + 2).toNat = k + 2 := by omega
                          have q6 : ((k : Int) + 3).toNat = k + 3 := by omega
                          have q7 : (k : Int) + 2 < s.size := by omega
                          have q8 : (k : Int) + 3 < s.size := by omega
                          go_quiet ((go_at_call 52; first | (with_reducible exact Calls.quiet_of_same (indexHex_at _ hbt2 (x : Int) HA.out _)) | (with_reducible exact Calls.quiet_of_same (indexHex_at _ hbt3 (y : Int) HB.out _))))
                          clear q1 q2
                          go_wp2_with (at_builtin; refine wp_app1 rfl _ _ 44 rfl w.heap.size (.int .u8 0) 1 1 Tryz.underlying44 info5 rfl (by decide) _ _ _ rfl (own_drewN hown nq) rfl rfl ?c2 ?c3 (by decide) hb.size ?_)
                          case c2 => simp [Value.oneCell']
                          case c3 => omega
                          intro v' w1 hown' hb1 _
                          rw [or_hex x y hx15 hy15] at hown'
                          go_wp2_with fail
                          go_roundw
                          case rel => exact ⟨k + 4, out ++ [UInt8.ofNat (x * 16 + y)], by omega, by go_num, by rw [bc_app, bc_one]; simpa using hown', by simp; omega, (pw_drewN hb nq).trans hb1, by rw [← Hsem.out, Hd.out, Hd1.out, E92.out, HX.out, Hd2.out, Hd3.out]; exact (unq_hex _ _ _ HXA.out HXB.out).symm⟩
                          case measure => simp [intOf]; omega
                    · go_wp2_with (first | (go_at_call 24; (with_reducible refine (hasPrefix_at s k _ _ _ HP1.out).mono ?_); rintro e w' ⟨rfl, rfl⟩) | (go_at_call 24; (with_reducible refine (hasPrefix_at s k _ _ _ HP2.out).mono ?_); rintro e w' ⟨rfl, rfl⟩) | (go_at_call 24; (with_reducible refine (hasPrefix_at s k _ _ _ HP3.out).mono ?_); rintro e w' ⟨rfl, rfl⟩))
                      go_ret3
                      refine ⟨?_, hb⟩
                      rw [← Hsem.out, Hd.out, Hd1.out, E92.out, HX.out, unq_short _ _ _ (by simp; omega)]
                      rfl
                  · have hp3 : (ByteArray.mk #[92, 120]).data.toList.isPrefixOf (s.data.toList.drop k) = false := by rw [Hd.out, Hd1.out]; exact pre2f _ _ _ _ _ hx
                    have HP3 := Lib.hid hp3
                    have HX : Hid (¬ s[k + 1] = 120) := Lib.hid hx
                    clear hp3 hx
                    go_wp2_with (first | (go_at_call 24; (with_reducible refine (hasPrefix_at s k _ _ _ HP1.out).mono ?_); rintro e w' ⟨rfl, rfl⟩) | (go_at_call 24; (with_reducible refine (hasPrefix_at s k _ _ _ HP2.out).mono ?_); rintro e w' ⟨rfl, rfl⟩) | (go_at_call 24; (with_reducible refine (hasPrefix_at s k _ _ _ HP3.out).mono ?_); rintro e w' ⟨rfl, rfl⟩))
                    go_ret3
                    refine ⟨?_, hb⟩
                    rw [← Hsem.out, Hd.out, Hd1.out, E92.out, unq_bad _ _ _ HQ.out HX.out]
                    rfl
            · have hd1 : s.data.toList.drop (k + 1) = [] := List.drop_of_length_le (by simp; omega)
              have hp : ∀ d : UInt8, (ByteArray.mk #[92, d]).data.toList.isPrefixOf (s.data.toList.drop k) = false := by intro d; rw [Hd.out, hd1]; exact pre1 _ _ _
              have HP := Lib.hid hp
              have Hd1 := Lib.hid hd1
              have E92 := Lib.hid e92
              clear hp hd1 e92
              go_wp2_with (go_at_call 24; (with_reducible refine (hasPrefix_at s k _ _ _ (HP.out _)).mono ?_); rintro e w' ⟨rfl, rfl⟩)
              go_ret3
              refine ⟨?_, hb⟩
              rw [← Hsem.out, Hd.out, Hd1.out, E92.out, unq_stroke]
              rfl
          · have t92 : ((s[k].toNat : Int) != 92) = true := by simp; omega
            have e92 : s[k] ≠ 92 := by intro e; rw [e] at h92; exact h92 rfl
            go_wp2_with (at_builtin; go_must (refine wp_app1 rfl _ _ 44 rfl w.heap.size (.int .u8 0) 1 1 Tryz.underlying44 info5 rfl (by decide) _ _ _ rfl hown rfl rfl ?c2 ?c3 (by decide) hb.size ?_))
            case c2 => simp [Value.oneCell']
            case c3 => omega
            intro v' w1 hown' hb1 _
            go_wp2_with fail
            go_roundw
            case rel => exact ⟨k + 1, out ++ [s[k]], by omega, by go_num, by rw [bc_app, bc_one]; simpa using hown', by simp; omega, hb.trans hb1, by rw [← Hsem.out, Hd.out]; exact (unq_plain _ _ _ e34 HR.out e92).symm⟩
            case measure => simp [intOf]; omega
    · have hke : k = s.size := by omega
      subst hke
      go_wp2_with fail
      go_ret3
      refine ⟨?_, hb⟩
      rw [← Hsem.out, List.drop_of_length_le (by simp)]
      simp [unq, retUnq]
end Go.Proofs.YtmkmkccdlopogaaGreatDoor.Con
