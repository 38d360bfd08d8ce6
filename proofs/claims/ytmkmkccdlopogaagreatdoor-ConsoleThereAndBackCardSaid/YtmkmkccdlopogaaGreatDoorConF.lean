/- Words for the walks: a frame by the types of rows; rows of bytes. -/
import Derived.WalkKit
import Derived.Lib.OthersKept
import Derived.Lib.UnsafeStr
import Derived.Lib.ConvBytes
import Derived.Lib.Hide
import Derived.WalkSpells
import Derived.Deep.LoopGhost
import Derived.Deep.QuietTactic
import Derived.BigQuiet
import Derived.Deep.DeepMust
import Derived.ScopeJumps
set_option linter.unusedVariables false
set_option linter.unusedSimpArgs false
namespace Go.Proofs.YtmkmkccdlopogaaGreatDoor.Con
open Go.RowKit

/-- every block that is no row of these types stands as it stood -/
def Fr (T : List Nat) (w w' : World) : Prop := ∀ (k : Nat) (o : Obj), w.heap[k]? = some o → (∀ c t fz, o = Obj.cells c t fz → t ∉ T) → w'.heap[k]? = some o

theorem Fr.refl (T : List Nat) (w : World) : Fr T w w := fun _ _ h _ => h
theorem Fr.trans {T : List Nat} {a b c : World} (h : Fr T a b) (k : Fr T b c) : Fr T a c := fun i o hi ho => k i o (h i o hi ho) ho
theorem Fr.mono {T T' : List Nat} {a b : World} (h : Fr T a b) (ht : ∀ t, t ∈ T → t ∈ T') : Fr T' a b := fun i o hi ho => h i o hi (fun c t fz e hm => ho c t fz e (ht t hm))
theorem Fr.drew {T : List Nat} {a w : World} (h : Fr T a w) : Fr T a w.drew := h
theorem Fr.drewN {T : List Nat} {a w : World} (h : Fr T a w) (n : Nat) : Fr T a (w.drewN n) := h
theorem Fr.alloc {T : List Nat} {a w : World} (h : Fr T a w) (o : Obj) : Fr T a (w.alloc o) := by
  intro k x hk hx
  have h1 := h k x hk hx
  exact (Lib.alloc_old w o k (Array.getElem?_eq_some_iff.1 h1).1).trans h1
theorem Fr.below {T : List Nat} {a w w' : World} (h : Fr T a w) (hb : Below w.heap.size w w') : Fr T a w' := by
  intro k x hk hx
  have h1 := h k x hk hx
  rw [hb.block k (Array.getElem?_eq_some_iff.1 h1).1]; exact h1
theorem Fr.grown {T : List Nat} {a w w' : World} {row : Option Nat} (h : Fr T a w) (hg : w.grownBy w' row)
    (hrow : ∀ g, row = some g → ∃ c t fz, w.heap[g]? = some (.cells c t fz) ∧ t ∈ T) : Fr T a w' := by
  intro k x hk hx
  have h1 := h k x hk hx
  rw [hg.block k (Array.getElem?_eq_some_iff.1 h1).1 ?_]
  · exact h1
  · intro hk2
    obtain ⟨c, t, fz, hc, ht⟩ := hrow k hk2.symm
    rw [h1] at hc
    exact hx c t fz (Option.some.inj hc) ht
theorem Fr.setCell {T : List Nat} {a w : World} (h : Fr T a w) (p : Addr) (v : Value) {c : Array Value} {t : Nat} {fz : Nat × Nat} (hp : w.heap[p.block]? = some (.cells c t fz)) (ht : t ∈ T) : Fr T a (w.setCell p v) := by
  intro k x hk hx
  have h1 := h k x hk hx
  by_cases e : k = p.block
  · subst e
    rw [hp] at h1
    exact absurd ht (hx c t fz (Option.some.inj h1).symm)
  · rw [Below.heap_setCell _ _ _ _ e]; exact h1
/-- the builder's frame -/
theorem Fr.others {T : List Nat} {a w w' : World} (h : Fr T a w) {e b : Nat} (k : Lib.OthersKept e (some b) w w') (he : e ∈ T) {c : Array Value} {t : Nat} {fz : Nat × Nat} (hb : w.heap[b]? = some (.cells c t fz)) (ht : t ∈ T) : Fr T a w' := by
  intro i x hi hx
  have h1 := h i x hi hx
  refine k i x h1 ?_ ?_
  · intro e2
    rw [Option.some.inj e2, hb] at h1
    exact hx c t fz (Option.some.inj h1).symm ht
  · intro c' fz' e2
    exact hx c' e fz' e2 he

theorem own_kind {w : World} {B e size n : Nat} {v : Value} {xs : List Value} (h : w.ownsRow B e size v n xs) : ∀ g, v.ownBlock = some g → ∃ c fz, w.heap[g]? = some (.cells c e fz) := by
  intro g hg
  rcases h.2 with ⟨rfl, _⟩ | ⟨g', cap, cur, rfl, _, hgg, _⟩
  · simp [Value.ownBlock] at hg
  · simp [Value.ownBlock] at hg
    subst hg
    exact ⟨cur, _, hgg⟩
theorem own_kindT {w : World} {B e size n : Nat} {v : Value} {xs : List Value} (h : w.ownsRow B e size v n xs) {T : List Nat} (he : e ∈ T) : ∀ g, v.ownBlock = some g → ∃ c t fz, w.heap[g]? = some (.cells c t fz) ∧ t ∈ T := by
  intro g hg
  obtain ⟨c, fz, hc⟩ := own_kind h g hg
  exact ⟨c, e, fz, hc, he⟩
theorem own_ge {w : World} {B e size n : Nat} {v : Value} {xs : List Value} (h : w.ownsRow B e size v n xs) : ∀ g, v.ownBlock = some g → B ≤ g := by
  intro g hg
  rcases h.2 with ⟨rfl, _⟩ | ⟨g', cap, cur, rfl, hb, _⟩
  · simp [Value.ownBlock] at hg
  · simp [Value.ownBlock] at hg
    omega
/-- a row of a type that isn't written stands -/
theorem own_fr {w w' : World} {B e size n : Nat} {v : Value} {xs : List Value} (h : w.ownsRow B e size v n xs) {T : List Nat} (hf : Fr T w w') (he : e ∉ T) : w'.ownsRow B e size v n xs := by
  refine ⟨h.1, ?_⟩
  rcases h.2 with h2 | ⟨g, cap, cur, hv, hb, hg, r⟩
  · exact .inl h2
  · refine .inr ⟨g, cap, cur, hv, hb, hf g _ hg ?_, r⟩
    intro c t fz e2
    injection e2 with _ e3 _
    subst e3; exact he
theorem own_below {w w' : World} {B e size n : Nat} {v : Value} {xs : List Value} (h : w.ownsRow B e size v n xs) (hb : Below w.heap.size w w') : w'.ownsRow B e size v n xs := by
  refine ⟨h.1, ?_⟩
  rcases h.2 with h2 | ⟨g, cap, cur, hv, hB, hg, r⟩
  · exact .inl h2
  · exact .inr ⟨g, cap, cur, hv, hB, by rw [hb.block g (Array.getElem?_eq_some_iff.1 hg).1]; exact hg, r⟩
theorem own_alloc {w : World} {B e size n : Nat} {v : Value} {xs : List Value} (h : w.ownsRow B e size v n xs) (o : Obj) : (w.alloc o).ownsRow B e size v n xs :=
  own_below h ((Below.refl _ _).alloc (Nat.le_refl _) o)
theorem own_shape {w : World} {B e size n : Nat} {v : Value} {xs : List Value} (h : w.ownsRow B e size v n xs) : ∃ a c, v = .slice a n c := by
  rcases h.2 with ⟨rfl, rfl⟩ | ⟨g, cap, cur, rfl, _⟩
  · exact ⟨none, 0, rfl⟩
  · exact ⟨_, cap, rfl⟩
theorem own_cell {w : World} {B e n : Nat} {v : Value} {xs : List Value} (h : w.ownsRow B e 1 v n xs) (h0 : 0 < n) : ∃ g c, v = .slice (some ⟨g, 0, none⟩) n c ∧ ∀ j u, xs[j]? = some u → w.cell? ⟨g, j, none⟩ = some u := by
  rcases h.2 with ⟨_, h1⟩ | ⟨g, cap, cur, rfl, _⟩
  · omega
  · refine ⟨g, cap, rfl, fun j u hj => ?_⟩
    have := h.cells (g := g) rfl j u hj
    simpa [Addr.add] using (show w.cell? ((⟨g, 0, none⟩ : Addr).add j) = some u from this) |> fun t => by
      have e : (⟨g, 0, none⟩ : Addr).add j = ⟨g, j, none⟩ := by unfold Addr.add; split <;> simp_all
      rw [← e]; exact t
theorem own_one {B e n : Nat} {v : Value} {xs : List Value} {w : World} (h : w.ownsRow B e 1 v n xs) (h0 : 0 < n) : ∃ g c, v = .slice (some ⟨g, 0, none⟩) n c := by
  obtain ⟨g, c, hv, _⟩ := own_cell h h0
  exact ⟨g, c, hv⟩

/-- append(s, x): one element more; what is new lies above; no row of another type is touched -/
theorem wp_app1 {P : Program} {ops : Array Oper} {rest : List Oper} {o : Oper} {a : Act} {Q : Exit → Act → World → Prop} {w0 : World} {news : List Value} {e : TypeId} (hgd : o.guard = none) (s x : Operand) (t : TypeId)
    (ho : o.op = .call { callee := .builtin .append, args := #[s, x], argTypes := #[t, t] })
    (base : Nat) (z : Value) (size bytes : Nat) (ht : P.underlying t = some (.slice e)) (hi : (P.info? e).map (fun i => (i.zero, i.size, i.bytes)) = some (some z, size, bytes))
    (hzs : z.cells.size = size) (hsz : 0 < size)
    (v : Value) (n : Nat) (xs : List Value) (hs : a.eval s = v) (hown : w0.ownsRow base e size v n xs)
    (hl : news.length = size) (hx : a.eval x = .slice (some ⟨w0.heap.size, 0, none⟩) 1 1) (h1 : ∀ u ∈ news, u.oneCell' = true)
    (hn : n + 1 ≤ 1099511627776) (hby : bytes ≤ 128) (hbase : base ≤ w0.heap.size)
    (h : ∀ v' w', w'.ownsRow base e size v' (n + 1) (xs ++ news) → Below base w0 w' → Fr [e] w0 w' → wpList P ops Q rest (a.put o.dst v') w') : wpList P ops Q (o :: rest) a (w0.alloc (.cells news.toArray e)) := by
  obtain ⟨i, hi', hz, hsize, hbytes⟩ := info_parts hi
  refine wpList_append_own _ hgd s x t ho base e i z size bytes ht hi' hz hsize hbytes hzs hsz v n xs hs (own_alloc hown _) ⟨w0.heap.size, 0, none⟩ 1 1 news hx (by omega) ?_ h1 (by unfold maxLen; omega) ?_ (by simp; omega) ?_
  · intro j u hj
    have e1 : (⟨w0.heap.size, 0, none⟩ : Addr).add j = ⟨w0.heap.size, j, none⟩ := by unfold Addr.add; split <;> simp_all
    rw [e1]
    have e2 : (w0.alloc (.cells news.toArray e)).heap[w0.heap.size]? = some (.cells news.toArray e (0, 0)) := by
      show (w0.heap.push _)[w0.heap.size]? = _
      simp
    simp only [World.cell?, e2]
    simpa using hj
  · have : (n + 1) * bytes ≤ (n + 1) * 128 := Nat.mul_le_mul_left _ hby
    omega
  · intro v' w' ho' hg _
    refine h v' w' ho' (((Below.refl _ _).alloc hbase _).grown hg (by simp; omega) (own_ge hown)) ?_
    exact ((Fr.refl [e] w0).alloc _).grown hg (own_kindT (own_alloc hown _) (by simp))

/-- append(s, x): one element more; what is new lies above; no row of another type is touched -/
theorem wp_app2 {P : Program} {ops : Array Oper} {rest : List Oper} {o : Oper} {a : Act} {Q : Exit → Act → World → Prop} {w0 : World} {news : List Value} {e : TypeId} (hgd : o.guard = none) (s x : Operand) (t : TypeId)
    (ho : o.op = .call { callee := .builtin .append, args := #[s, x], argTypes := #[t, t] })
    (base : Nat) (z : Value) (size bytes : Nat) (ht : P.underlying t = some (.slice e)) (hi : (P.info? e).map (fun i => (i.zero, i.size, i.bytes)) = some (some z, size, bytes))
    (hzs : z.cells.size = size) (hsz : 0 < size)
    (v : Value) (n : Nat) (xs : List Value) (hs : a.eval s = v) (hown : w0.ownsRow base e size v n xs)
    (hl : news.length = size) (hx : a.eval x = .slice (some ⟨w0.heap.size, 0, none⟩) 1 1) (h1 : ∀ u ∈ news, u.oneCell' = true)
    (hn : n + 1 ≤ 4398046511104) (hby : (n + 1) * bytes ≤ 140737488355328) (hbase : base ≤ w0.heap.size)
    (h : ∀ v' w', w'.ownsRow base e size v' (n + 1) (xs ++ news) → Below base w0 w' → Fr [e] w0 w' → wpList P ops Q rest (a.put o.dst v') w') : wpList P ops Q (o :: rest) a (w0.alloc (.cells news.toArray e)) := by
  obtain ⟨i, hi', hz, hsize, hbytes⟩ := info_parts hi
  refine wpList_append_own _ hgd s x t ho base e i z size bytes ht hi' hz hsize hbytes hzs hsz v n xs hs (own_alloc hown _) ⟨w0.heap.size, 0, none⟩ 1 1 news hx (by omega) ?_ h1 (by unfold maxLen; omega) hby (by simp; omega) ?_
  · intro j u hj
    have e1 : (⟨w0.heap.size, 0, none⟩ : Addr).add j = ⟨w0.heap.size, j, none⟩ := by unfold Addr.add; split <;> simp_all
    rw [e1]
    have e2 : (w0.alloc (.cells news.toArray e)).heap[w0.heap.size]? = some (.cells news.toArray e (0, 0)) := by
      show (w0.heap.push _)[w0.heap.size]? = _
      simp
    simp only [World.cell?, e2]
    simpa using hj
  · intro v' w' ho' hg _
    refine h v' w' ho' (((Below.refl _ _).alloc hbase _).grown hg (by simp; omega) (own_ge hown)) ?_
    exact ((Fr.refl [e] w0).alloc _).grown hg (own_kindT (own_alloc hown _) (by simp))

theorem bc_app (l m : List UInt8) : Lib.byteCells (l ++ m) = Lib.byteCells l ++ Lib.byteCells m := by simp [Lib.byteCells]
theorem bc_one (c : UInt8) : Lib.byteCells [c] = [.int .u8 c.toNat] := rfl

/-- string(b) of a row of bytes -/
theorem conv_own {P : Program} {src dst e : TypeId} (hs : P.underlying src = some (.slice e)) (he : P.underlying e = some (.int .u8)) (hd : P.underlying dst = some .string)
    {w : World} {B n : Nat} {v : Value} {l : List UInt8} (h : w.ownsRow B e 1 v n (Lib.byteCells l)) : (convert src dst v).run P w = .ok (.string ⟨l.toArray⟩) w := by
  have hl : l.length = n := by have := h.1; simpa [Lib.byteCells] using this
  rcases h.2 with ⟨rfl, h0⟩ | ⟨g, cap, cur, rfl, _⟩
  · have : l = [] := by cases l with
      | nil => rfl
      | cons => simp at hl; omega
    subst this
    exact run_convert_bytes_nil w src e hs he 0 0 dst hd
  · have := run_convert_bytes_arg w src e hs he g 0 n cap (l.map fun b => (b.toNat : Int)) (by simpa using hl) (fun i hi => by
      have hc := h.cells (g := g) rfl i (.int .u8 (l[i]'(by omega)).toNat) (by simp [Lib.byteCells, List.getElem?_eq_getElem (show i < l.length by omega)])
      have e2 : (⟨g, 0, none⟩ : Addr).add i = ⟨g, 0 + i, none⟩ := by unfold Addr.add; split <;> simp_all
      rw [← e2, hc]
      simp [List.getD, List.getElem?_map, List.getElem?_eq_getElem (show i < l.length by omega)]) dst hd
    rw [this]
    congr 2
    unfold strOfNums
    congr 2
    rw [List.map_map]
    conv => rhs; rw [← List.map_id l]
    apply List.map_congr_left
    intro b _
    simp

theorem ret_int {k : IntKind} {a b : Int} (h : a = b) : Ending.returned (.int k a) = .returned (.int k b) := by rw [h]
theorem drop_cons (s : ByteArray) (k : Nat) (h : k < s.size) : s.data.toList.drop k = s[k] :: s.data.toList.drop (k + 1) := by
  rw [List.drop_eq_getElem_cons (by simpa using h)]; rfl

/-- a scope with one label that is jumped back to: what stands behind the label is walked once -/
theorem wp_scope_jumps2 {P : Program} {a : Act} {w : World} {Q : Exit → Act → World → Prop} {c b : Code} (l : Nat) (J : Act → World → Prop) (μ : Act → World → Nat) (hf : findLabel c l = some (.seq .skip b))
    (pass : ∀ a w, J a w → b.wp P (Exit.jump l (fun a' w' => J a' w' ∧ μ a' w' < μ a w) Q) a w)
    (first : (∀ a w, J a w → b.wp P (Exit.jump l J Q) a w) → c.wp P (Exit.jump l J Q) a w) : (Code.scope c).wp P Q a w := by
  refine wp_scope_jumps l J μ hf (first fun a w hJ => ?_) fun a w hJ => ?_
  · refine Code.wp_mono (fun e a' w' h => ?_) (pass a w hJ)
    cases e <;> first | exact h | exact ⟨h.1, h.2.1⟩
  · apply wp_seq_k
    intro K hK
    apply wp_skip
    exact hK _ _ (pass a w hJ)
end Go.Proofs.YtmkmkccdlopogaaGreatDoor.Con
