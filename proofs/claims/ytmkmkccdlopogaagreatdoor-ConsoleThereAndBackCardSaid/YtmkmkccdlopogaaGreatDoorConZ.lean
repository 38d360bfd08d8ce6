/- The walk of quote. -/
import Derived.Test.YtmkmkccdlopogaaGreatDoorProg
import Derived.Test.YtmkmkccdlopogaaGreatDoorConY
import Derived.Test.YtmkmkccdlopogaaGreatDoorConB
set_option linter.unusedVariables false
set_option linter.unusedSimpArgs false
namespace Go.Proofs.YtmkmkccdlopogaaGreatDoor.Con
open Go.RowKit

theorem first_byte (c : Int) (w : World) : Calls Tryz.prog 48 #[.pointer (some ⟨w.heap.size, 0, none⟩), .int .u8 c] (w.alloc (.cells #[.pointer none, .slice none 0 0] 60)) fun e w' => e = .returned .nilIface ∧ Lib.BuilderAtF 60 5 w.heap.size w.heap.size (.pointer (some ⟨w.heap.size, 0, none⟩)) [.int .u8 c] w' ∧ Below w.heap.size w w' := by
  have hb : Lib.IsBuilderF 60 5 w.heap.size w.heap.size [] (w.alloc (.cells #[.pointer none, .slice none 0 0] 60)) :=
    .inl ⟨Nat.le_refl _, .slice none 0 0, heap_alloc_new _ _, World.ownsRowF_nil _ _ _ _, by simp [Value.ownBlock]⟩
  refine (Tryz.Builder_WriteByte_k w.heap.size w.heap.size [] c _ hb (by simp) (by simp)).mono ?_
  rintro e w' ⟨rfl, h1, h2, -⟩
  exact ⟨rfl, by simpa using h1, ((Below.refl _ _).alloc (Nat.le_refl _) _).trans h2⟩
theorem ownF_keep {w w' : World} {B e size n : Nat} {v : Value} {xs : List Value} (h : w.ownsRowF B e size v n xs) (hk : ∀ g, g < w.heap.size → w'.heap[g]? = w.heap[g]?) : w'.ownsRowF B e size v n xs := by
  refine ⟨h.1, ?_⟩
  rcases h.2 with h2 | ⟨g, cap, cur, fz, hv, hB, hg, r⟩
  · exact .inl h2
  · exact .inr ⟨g, cap, cur, fz, hv, hB, by rw [hk g (Array.getElem?_eq_some_iff.1 hg).1]; exact hg, r⟩
theorem bq_of {b : Nat} {bs : List Value} {w W : World} (h : Lib.BuilderAtF 60 5 b b (.pointer (some ⟨b, 0, none⟩)) bs w) (hk : ∀ g, g < w.heap.size → W.heap[g]? = w.heap[g]?) (hz : W.heap.size = w.heap.size + 1) : BQ b b w.heap.size bs W := by
  obtain ⟨hB, v, hb, hown, hne⟩ := h
  have hlt : b < w.heap.size := (Array.getElem?_eq_some_iff.1 hb).1
  refine ⟨hB, ⟨v, by rw [hk _ hlt]; exact hb, ownF_keep hown hk, hne, fun e => ?_⟩, by omega, by omega⟩
  have := (hown.lt _ e).2
  omega
theorem BQ.string {B b q : Nat} {bs : List Value} {w : World} (h : BQ B b q bs w) : Lib.IsBuilderF 60 5 B b bs w := by
  obtain ⟨hB, ⟨v, hb, hown, hne, _⟩, _, _⟩ := h
  exact .inr ⟨hB, v, hb, hown, hne⟩
theorem bytes_below (w : World) (s : ByteArray) : Below w.heap.size w (Lib.bytesWorld w 5 s) := ⟨rfl, rfl, rfl, by rw [Lib.bytesWorld_size]; omega, fun k hk => Lib.bytesWorld_at_old _ _ _ _ hk⟩

def hexB : ByteArray := ⟨#[48, 49, 50, 51, 52, 53, 54, 55, 56, 57, 65, 66, 67, 68, 69, 70]⟩
theorem hex_at : ∀ n : Nat, n < 16 → ∀ w, (Instr.index 9 (.string ⟨#[48, 49, 50, 51, 52, 53, 54, 55, 56, 57, 65, 66, 67, 68, 69, 70]⟩) (.int .u8 (n : Int))).run Tryz.prog w = .ok (.int .u8 ((hexd n).toNat : Int)) w
  | 0, _, _ => by kernel_rfl
  | 1, _, _ => by kernel_rfl
  | 2, _, _ => by kernel_rfl
  | 3, _, _ => by kernel_rfl
  | 4, _, _ => by kernel_rfl
  | 5, _, _ => by kernel_rfl
  | 6, _, _ => by kernel_rfl
  | 7, _, _ => by kernel_rfl
  | 8, _, _ => by kernel_rfl
  | 9, _, _ => by kernel_rfl
  | 10, _, _ => by kernel_rfl
  | 11, _, _ => by kernel_rfl
  | 12, _, _ => by kernel_rfl
  | 13, _, _ => by kernel_rfl
  | 14, _, _ => by kernel_rfl
  | 15, _, _ => by kernel_rfl
  | n + 16, h, _ => absurd h (by omega)
theorem qbody_snoc (l : B) (c : UInt8) : qbody (l ++ [c]) = qbody l ++ qb c := by simp [qbody]
theorem qb_len (c : UInt8) : (qb c).length ≤ 4 := by unfold qb; split; · simp
                                                     · split <;> simp
theorem qbody_len : ∀ l : B, (qbody l).length ≤ 4 * l.length
  | [] => by simp [qbody]
  | c :: l => by
    have h1 := qbody_len l
    have h2 := qb_len c
    simp only [qbody, List.flatMap_cons, List.length_append, List.length_cons] at h1 ⊢
    omega
/-- the bytes of the Builder in the round -/
def qrow (s : ByteArray) (k : Nat) : B := 34 :: qbody (s.data.toList.take k)
theorem qrow_len (s : ByteArray) (k : Nat) (hk : k ≤ s.size) : (qrow s k).length ≤ 4 * s.size + 1 := by
  have := qbody_len (s.data.toList.take k)
  have h2 : (s.data.toList.take k).length ≤ k := List.length_take_le _ _
  simp only [qrow, List.length_cons]
  omega
theorem qrow_next (s : ByteArray) (k : Nat) (h : k < s.size) : qrow s (k + 1) = qrow s k ++ qb s[k] := by
  unfold qrow
  rw [List.take_succ_eq_append_getElem (by simpa using h), qbody_snoc]
  rfl

structure QI (w : World) (q : Nat) (X : Option Obj) (bs : List Value) (wr : World) : Prop where
  bq : BQ w.heap.size w.heap.size q bs wr
  below : Below w.heap.size w wr
  keep : wr.heap[q]? = X
theorem wb {w wr : World} {q : Nat} {X : Option Obj} {bs : List Value} (h : QI w q X bs wr) (h0 : 0 < bs.length) (hlen : bs.length + 1 ≤ 140737488355328) (c : Int) :
    Calls Tryz.prog 48 #[.pointer (some ⟨w.heap.size, 0, none⟩), .int .u8 c] wr fun e w' => e = .returned .nilIface ∧ QI w q X (bs ++ [.int .u8 c]) w' := by
  refine (wbyte w.heap.size w.heap.size q bs c wr h.bq h0 hlen h.below.size).mono ?_
  rintro e w' ⟨rfl, hp⟩
  exact ⟨rfl, hp.bq, h.below.trans hp.below, hp.keep.trans h.keep⟩
theorem ws {w wr : World} {q : Nat} {X : Option Obj} {bs : List Value} (h : QI w q X bs wr) (h0 : 0 < bs.length) (s : ByteArray) (hlen : bs.length + s.size ≤ 140737488355328) :
    Calls Tryz.prog 13 #[.pointer (some ⟨w.heap.size, 0, none⟩), .string s] wr fun e w' => e = .returned (.tuple #[.int .i64 s.size, .nilIface]) ∧ QI w q X (bs ++ Lib.strCells s) w' := by
  refine (wstring w.heap.size w.heap.size q bs s wr h.bq h0 hlen h.below.size).mono ?_
  rintro e w' ⟨rfl, hp⟩
  exact ⟨rfl, hp.bq, h.below.trans hp.below, hp.keep.trans h.keep⟩
theorem bc_len (l : B) : (Lib.byteCells l).length = l.length := by simp [Lib.byteCells]

theorem hex_get : ∀ n : Nat, (h : n < (⟨#[48, 49, 50, 51, 52, 53, 54, 55, 56, 57, 65, 66, 67, 68, 69, 70]⟩ : ByteArray).size) → (⟨#[48, 49, 50, 51, 52, 53, 54, 55, 56, 57, 65, 66, 67, 68, 69, 70]⟩ : ByteArray)[n] = hexd n
  | 0, _ => rfl
  | 1, _ => rfl
  | 2, _ => rfl
  | 3, _ => rfl
  | 4, _ => rfl
  | 5, _ => rfl
  | 6, _ => rfl
  | 7, _ => rfl
  | 8, _ => rfl
  | 9, _ => rfl
  | 10, _ => rfl
  | 11, _ => rfl
  | 12, _ => rfl
  | 13, _ => rfl
  | 14, _ => rfl
  | 15, _ => rfl
  | n + 16, h => absurd h (by show ¬ n + 16 < 16; omega)
theorem qb_esc {c : UInt8} (h : c = 34 ∨ c = 92) : qb c = [92, c] := by unfold qb; rw [if_pos h]
theorem qb_hex {c : UInt8} (h : ¬ (c = 34 ∨ c = 92)) (h2 : c.toNat < 32 ∨ 126 < c.toNat) : qb c = [92, 120, hexd (c.toNat / 16), hexd (c.toNat % 16)] := by unfold qb; rw [if_neg h, if_pos h2]
theorem qb_one {c : UInt8} (h : ¬ (c = 34 ∨ c = 92)) (h2 : ¬ (c.toNat < 32 ∨ 126 < c.toNat)) : qb c = [c] := by unfold qb; rw [if_neg h, if_neg h2]
theorem fin_esc {w wr : World} {q : Nat} {X : Option Obj} {s : ByteArray} {k : Nat} {c : UInt8} (hn : qrow s (k + 1) = qrow s k ++ qb c) (h : c = 34 ∨ c = 92) (hq : QI w q X (Lib.byteCells (qrow s k) ++ [.int .u8 92] ++ [.int .u8 c.toNat]) wr) : QI w q X (Lib.byteCells (qrow s (k + 1))) wr := by
  rw [hn, qb_esc h, bc_app]
  simpa [Lib.byteCells] using hq
theorem fin_hex {w wr : World} {q : Nat} {X : Option Obj} {s : ByteArray} {k : Nat} {c : UInt8} (hn : qrow s (k + 1) = qrow s k ++ qb c) (h : ¬ (c = 34 ∨ c = 92)) (h2 : c.toNat < 32 ∨ 126 < c.toNat) {x y : UInt8} (hx : x = hexd (c.toNat / 16)) (hy : y = hexd (c.toNat % 16))
    (hq : QI w q X (Lib.byteCells (qrow s k) ++ Lib.strCells ⟨#[92, 120]⟩ ++ [.int .u8 x.toNat] ++ [.int .u8 y.toNat]) wr) : QI w q X (Lib.byteCells (qrow s (k + 1))) wr := by
  subst hx hy
  rw [hn, qb_hex h h2, bc_app]
  have e : Lib.strCells ⟨#[92, 120]⟩ = [.int .u8 92, .int .u8 120] := rfl
  rw [e] at hq
  simpa [Lib.byteCells] using hq
theorem fin_one {w wr : World} {q : Nat} {X : Option Obj} {s : ByteArray} {k : Nat} {c : UInt8} (hn : qrow s (k + 1) = qrow s k ++ qb c) (h : ¬ (c = 34 ∨ c = 92)) (h2 : ¬ (c.toNat < 32 ∨ 126 < c.toNat)) (hq : QI w q X (Lib.byteCells (qrow s k) ++ [.int .u8 c.toNat]) wr) : QI w q X (Lib.byteCells (qrow s (k + 1))) wr := by
  rw [hn, qb_one h h2, bc_app]
  simpa [Lib.byteCells] using hq
theorem quote_row (s : ByteArray) : quote s.data.toList = qrow s s.size ++ [34] := by
  unfold qrow quote
  rw [List.take_of_length_le (by simp)]
theorem quote_str {w wr : World} {q : Nat} {X : Option Obj} {s : ByteArray} (h : QI w q X (Lib.byteCells (qrow s s.size) ++ [.int .u8 34]) wr) :
    Calls Tryz.prog 17 #[.pointer (some ⟨w.heap.size, 0, none⟩)] wr fun e w' => e = .returned (.string ⟨(quote s.data.toList).toArray⟩) ∧ Below w.heap.size w w' := by
  have e : Lib.byteCells (qrow s s.size) ++ [.int .u8 34] = Lib.byteCells (quote s.data.toList) := by rw [quote_row, bc_app]; rfl
  rw [e] at h
  refine (Tryz.Builder_String_any_k w.heap.size w.heap.size (quote s.data.toList) wr h.bq.string h.below.size).mono ?_
  rintro e w' ⟨rfl, -, h2, -⟩
  exact ⟨rfl, h.below.trans h2⟩

set_option maxRecDepth 100000 in
set_option maxHeartbeats 2000000 in
theorem quote_any (s : ByteArray) (w : World) (hs : s.size ≤ 17592186044416) :
    Calls Tryz.prog 31 #[.string s] w fun e w' => e = .returned (.string ⟨(quote s.data.toList).toArray⟩) ∧ Below w.heap.size w w' := by
  go_enter Tryz.func31, Tryz.ntmps31
  go_wp2_with fail
  refine (first_byte 34 w).mono ?_
  rintro e w1 ⟨rfl, hb1, hbe1⟩
  have hcv := Lib.run_convert_string_bytes w1 9 44 5 s Tryz.underlying9 Tryz.underlying44 Tryz.underlying5
  go_wp2_with fail
  clear hcv
  have hbq := bq_of hb1 (W := Lib.bytesWorld w1 5 s) (fun g hg => Lib.bytesWorld_at_old _ _ _ _ hg) (Lib.bytesWorld_size _ _ _)
  have hbe2 := hbe1.trans ((bytes_below w1 s).mono hbe1.size)
  have hrow : ∀ k, (h : k < s.size) → (Lib.bytesWorld w1 5 s).cell? ⟨w1.heap.size, k, none⟩ = some (.int .u8 s[k].toNat) := fun k h => by
    rw [Lib.bytesWorld_cell w1 5 s k h]
    have e : s.data.toList.getD k 0 = s[k] := by
      rw [List.getD_eq_getElem?_getD, List.getElem?_eq_getElem (by simpa using h)]; rfl
    rw [e]
  have HR := Lib.hid hrow
  generalize Lib.bytesWorld w1 5 s = W at *
  generalize w1.heap.size = q at *
  clear hb1 hbe1 hrow
  have hqi : QI w q W.heap[q]? (Lib.byteCells (qrow s 0)) W := ⟨hbq, hbe2, rfl⟩
  have HQ0 := Lib.hid hqi
  clear hbq hbe2 hqi
  go_loopw [10] (fun i wr => ∃ k : Nat, i = .int .i64 k ∧ k ≤ s.size ∧ QI w q W.heap[q]? (Lib.byteCells (qrow s k)) wr) (fun i _ => s.size - (intOf i).toNat)
  case atStart => exact ⟨0, rfl, Nat.zero_le _, HQ0.out⟩
  case round =>
    clear HQ0
    rename World => wr
    obtain ⟨k, rfl, hk, hq⟩ := hrel
    have hql := qrow_len s k hk
    have hq1 : 0 < (qrow s k).length := by simp [qrow]
    by_cases hlt : k < s.size
    · have c0 : wr.cell? ⟨q, k, none⟩ = some (.int .u8 s[k].toNat) := by
        have := HR.out k hlt
        simp only [World.cell?, hq.keep] at this ⊢
        exact this
      have hnx := qrow_next s k hlt
      have hc255 : s[k].toNat < 256 := UInt8.toNat_lt _
      generalize s[k] = c at *
      have HN := Lib.hid hnx
      have HQ := Lib.hid hq
      have HL := Lib.hid (And.intro hql (And.intro hq1 hs))
      clear hnx hq hql hq1
      have b1 : (0 : Int) ≤ (c.toNat : Int) / 16 := by omega
      have b2 : (c.toNat : Int) / 16 < 16 := by omega
      have b3 : (0 : Int) ≤ (c.toNat : Int) % 16 := by omega
      have b4 : (c.toNat : Int) % 16 < 16 := by omega
      by_cases h1 : c = 34 ∨ c = 92
      · have HC := Lib.hid h1
        by_cases h34 : c = 34
        · have t0 : ((c.toNat : Int) == 34) = true := by rw [h34]; rfl
          clear h1 h34
          go_wp2_with fail
          refine (wb HQ.out (by rw [bc_len]; exact HL.out.2.1) (by rw [bc_len]; have := HL.out.1; have := HL.out.2.2; omega) _).mono ?_
          rintro e w2 ⟨rfl, hq2⟩
          go_wp2_with fail
          refine (wb hq2 (by simp) (by have := HL.out.1; have := HL.out.2.2; simp [bc_len]; omega) _).mono ?_
          rintro e w3 ⟨rfl, hq3⟩
          go_wp2_with fail
          go_roundw
          case rel => exact ⟨k + 1, by go_num, hlt, fin_esc HN.out HC.out hq3⟩
          case measure => simp [intOf]; omega
        · have t0 : ((c.toNat : Int) == 34) = false := by rw [beq_eq_false_iff_ne]; intro e; exact h34 (UInt8.toNat_inj.1 (by show c.toNat = 34; omega))
          have t1 : ((c.toNat : Int) == 92) = true := by rcases h1 with h | h; exact absurd h h34; rw [h]; rfl
          clear h1 h34
          go_wp2_with fail
          refine (wb HQ.out (by rw [bc_len]; exact HL.out.2.1) (by rw [bc_len]; have := HL.out.1; have := HL.out.2.2; omega) _).mono ?_
          rintro e w2 ⟨rfl, hq2⟩
          go_wp2_with fail
          refine (wb hq2 (by simp) (by have := HL.out.1; have := HL.out.2.2; simp [bc_len]; omega) _).mono ?_
          rintro e w3 ⟨rfl, hq3⟩
          go_wp2_with fail
          go_roundw
          case rel => exact ⟨k + 1, by go_num, hlt, fin_esc HN.out HC.out hq3⟩
          case measure => simp [intOf]; omega
      · have t0 : ((c.toNat : Int) == 34) = false := by rw [beq_eq_false_iff_ne]; intro e; exact h1 (.inl (UInt8.toNat_inj.1 (by show c.toNat = 34; omega)))
        have t1 : ((c.toNat : Int) == 92) = false := by rw [beq_eq_false_iff_ne]; intro e; exact h1 (.inr (UInt8.toNat_inj.1 (by show c.toNat = 92; omega)))
        have HC := Lib.hid h1
        clear h1
        by_cases h2 : c.toNat < 32 ∨ 126 < c.toNat
        · have HD := Lib.hid h2
          by_cases h3 : c.toNat < 32
          · clear h2
            go_wp2_with fail
            refine (ws HQ.out (by rw [bc_len]; exact HL.out.2.1) _ (by rw [bc_len]; have := HL.out.1; have := HL.out.2.2; simp [ByteArray.size]; omega)).mono ?_
            rintro e w2 ⟨rfl, hq2⟩
            go_wp2_with fail
            refine (wb hq2 (by simp [Lib.strCells]) (by have := HL.out.1; have := HL.out.2.2; simp [bc_len, Lib.strCells]; omega) _).mono ?_
            rintro e w3 ⟨rfl, hq3⟩
            go_wp2_with fail
            refine (wb hq3 (by simp; omega) (by have := HL.out.1; have := HL.out.2.2; simp [bc_len, Lib.strCells]; omega) _).mono ?_
            rintro e w4 ⟨rfl, hq4⟩
            go_wp2_with fail
            go_roundw
            case rel => exact ⟨k + 1, by go_num, hlt, fin_hex HN.out HC.out HD.out (hex_get _ _) (hex_get _ _) hq4⟩
            case measure => simp [intOf]; omega
          · have h4 : 126 < c.toNat := by omega
            clear h2
            go_wp2_with fail
            refine (ws HQ.out (by rw [bc_len]; exact HL.out.2.1) _ (by rw [bc_len]; have := HL.out.1; have := HL.out.2.2; simp [ByteArray.size]; omega)).mono ?_
            rintro e w2 ⟨rfl, hq2⟩
            go_wp2_with fail
            refine (wb hq2 (by simp [Lib.strCells]) (by have := HL.out.1; have := HL.out.2.2; simp [bc_len, Lib.strCells]; omega) _).mono ?_
            rintro e w3 ⟨rfl, hq3⟩
            go_wp2_with fail
            refine (wb hq3 (by simp; omega) (by have := HL.out.1; have := HL.out.2.2; simp [bc_len, Lib.strCells]; omega) _).mono ?_
            rintro e w4 ⟨rfl, hq4⟩
            go_wp2_with fail
            go_roundw
            case rel => exact ⟨k + 1, by go_num, hlt, fin_hex HN.out HC.out HD.out (hex_get _ _) (hex_get _ _) hq4⟩
            case measure => simp [intOf]; omega
        · have HD := Lib.hid h2
          have h3 : ¬ c.toNat < 32 := by omega
          have h4 : ¬ 126 < c.toNat := by omega
          clear h2
          go_wp2_with fail
          refine (wb HQ.out (by rw [bc_len]; exact HL.out.2.1) (by rw [bc_len]; have := HL.out.1; have := HL.out.2.2; omega) _).mono ?_
          rintro e w2 ⟨rfl, hq2⟩
          go_wp2_with fail
          go_roundw
          case rel => exact ⟨k + 1, by go_num, hlt, fin_one HN.out HC.out HD.out hq2⟩
          case measure => simp [intOf]; omega
    · have hke : k = s.size := by omega
      subst hke
      go_wp2_with fail
      refine (wb hq (by rw [bc_len]; exact hq1) (by rw [bc_len]; omega) _).mono ?_
      rintro e w2 ⟨rfl, hq2⟩
      go_wp2_with fail
      refine (quote_str hq2).mono ?_
      rintro e w3 ⟨rfl, hb3⟩
      go_wp2_with fail
      go_ret
      exact ⟨rfl, hb3⟩
end Go.Proofs.YtmkmkccdlopogaaGreatDoor.Con
