/- Wildmat: the reference's patterns in memory; best, by a walk through its text. -/
import Derived.Test.YtgnmanmlnbidfaaDoorWLit
namespace Go.Proofs.YtgnmanmlnbidfaaDoor
open Go.RowKit

/-- Does the reference's element note a character? -/
def El.bit : El → Nat → Bool
  | .star, _ => false
  | e, c => e.has c

/-- The cells of the reference's element: Star, then Set. -/
def eCells (e : El) : List Value := .bool e.isStar :: (List.range 128).map fun c => .bool (e.bit c)

theorem eCells_len (e : El) : (eCells e).length = 129 := by simp [eCells]

/-- The elements of a reference's pattern in memory. -/
def IsRef (w : World) (B : Nat) (A : Option Addr) (L : List El) : Prop := ReadsV w B A (L.flatMap eCells)

theorem flat_cells_len : ∀ L : List El, (L.flatMap eCells).length = 129 * L.length := by
  intro L
  induction L with
  | nil => rfl
  | cons e L ih => rw [List.flatMap_cons, List.length_append, ih, eCells_len, List.length_cons]; omega

theorem flat_cells_at : ∀ (L : List El) (j i : Nat), j < L.length → i < 129 → (L.flatMap eCells).getD (j * 129 + i) undef = (eCells (elAt L j)).getD i undef := by
  intro L
  induction L with
  | nil => intro j i hj; simp at hj
  | cons e L ih =>
    intro j i hj hi
    cases j with
    | zero =>
      rw [List.flatMap_cons, Nat.zero_mul, Nat.zero_add, List.getD_eq_getElem?_getD, List.getElem?_append_left (by rw [eCells_len]; exact hi), ← List.getD_eq_getElem?_getD]
      rfl
    | succ j =>
      rw [List.flatMap_cons, List.getD_eq_getElem?_getD, List.getElem?_append_right (by rw [eCells_len]; omega), eCells_len, show (j + 1) * 129 + i - 129 = j * 129 + i by omega, ← List.getD_eq_getElem?_getD]
      exact ih j i (by simpa using hj) hi

theorem IsRef.below {w w' : World} {B : Nat} {A : Option Addr} {L : List El} (h : IsRef w B A L) (hb : Below B w w') : IsRef w' B A L := ReadsV.below h hb

theorem IsRef.up {w : World} {B B' : Nat} {A : Option Addr} {L : List El} (h : IsRef w B A L) (hB : B ≤ B') : IsRef w B' A L := by
  rcases h with h3 | ⟨b, off, h3, h4, h5⟩
  · exact .inl h3
  · exact .inr ⟨b, off, h3, Nat.lt_of_lt_of_le h4 hB, h5⟩

theorem IsRef.later {w W : World} {A : Option Addr} {L : List El} (h : IsRef w w.heap.size A L) (hb : Below w.heap.size w W) : IsRef W W.heap.size A L := (h.below hb).up hb.size

theorem IsRef.at {w : World} {B : Nat} {A : Option Addr} {L : List El} {j : Nat} (h : IsRef w B A L) (hj : j < L.length) :
    ∃ b off, A = some ⟨b, off, none⟩ ∧ b < B ∧ w.cell? ⟨b, off + j * 129, none⟩ = some (.bool (elAt L j).isStar) ∧ ∀ c, c < 128 → w.cell? ⟨b, off + j * 129 + 1 + c, none⟩ = some (.bool ((elAt L j).bit c)) := by
  rcases h with h | ⟨b, off, h1, h2, h3⟩
  · have := congrArg List.length h
    rw [flat_cells_len] at this
    simp at this
    omega
  · refine ⟨b, off, h1, h2, ?_, fun c hc => ?_⟩
    · have h4 := h3 (j * 129 + 0) (by rw [flat_cells_len]; omega)
      rw [flat_cells_at L j 0 hj (by omega)] at h4
      exact h4
    · have h4 := h3 (j * 129 + (c + 1)) (by rw [flat_cells_len]; omega)
      rw [flat_cells_at L j (c + 1) hj (by omega)] at h4
      rw [show off + j * 129 + 1 + c = off + (j * 129 + (c + 1)) by omega, h4, eCells, List.getD_cons_succ, List.getD_eq_getElem?_getD, List.getElem?_map, List.getElem?_range hc]
      rfl

/-- An answer as the reference holds it. -/
def ansS (o : Option (List Nat)) : ByteArray := bytesOf (o.getD [])
def okL : Option (List Nat) → Prop
  | none => True
  | some l => ∀ c ∈ l, c < 256

set_option maxRecDepth 100000 in
set_option maxHeartbeats 2000000 in
theorem best_any (a b : Option (List Nat)) (w : World) (ha : okL a) (hb : okL b) (hal : (a.getD []).length ≤ 100000) (hbl : (b.getD []).length ≤ 100000) :
    Calls Tryd.prog 42 #[.string (ansS a), .bool a.isSome, .string (ansS b), .bool b.isSome] w fun e w' => e = .returned (.tuple #[.string (ansS (best2 a b)), .bool (best2 a b).isSome]) ∧ w = w' := by
  cases b with
  | none =>
    have E : Hid (best2 a none = a) := Lib.hid (by cases a <;> rfl)
    obtain ⟨sa, hsa⟩ : ∃ sa, ansS a = sa := ⟨_, rfl⟩
    obtain ⟨sb, hsb⟩ : ∃ sb, ansS none = sb := ⟨_, rfl⟩
    obtain ⟨q, hq⟩ : ∃ q, a.isSome = q := ⟨_, rfl⟩
    rw [E.out, hsa, hsb, hq]
    clear hsa hsb hq
    go_enter Tryd.func42, Tryd.ntmps42
    go_wp2_with fail
    go_ret2
    exact ⟨rfl, rfl⟩
  | some y =>
    cases a with
    | none =>
      have E : Hid (best2 none (some y) = some y) := Lib.hid rfl
      obtain ⟨sa, hsa⟩ : ∃ sa, ansS none = sa := ⟨_, rfl⟩
      obtain ⟨sb, hsb⟩ : ∃ sb, ansS (some y) = sb := ⟨_, rfl⟩
      rw [E.out, hsa, hsb]
      clear hsa hsb
      go_enter Tryd.func42, Tryd.ntmps42
      go_wp2_with fail
      go_ret2
      exact ⟨rfl, rfl⟩
    | some x =>
      have hx : chars (bytesOf x) = x := chars_bytesOf ha
      have hy : chars (bytesOf y) = y := chars_bytesOf hb
      obtain ⟨sa, hsa⟩ : ∃ sa, ansS (some x) = sa := ⟨_, rfl⟩
      obtain ⟨sb, hsb⟩ : ∃ sb, ansS (some y) = sb := ⟨_, rfl⟩
      have hsx : chars sa = x := by rw [← hsa]; exact hx
      have hsy : chars sb = y := by rw [← hsb]; exact hy
      have hlx : sa.size = x.length := by rw [← hsx, chars_length]
      have hly : sb.size = y.length := by rw [← hsy, chars_length]
      have hbz : best2 (some x) (some y) = if slLe x y = true then some x else some y := rfl
      by_cases hlt : x.length < y.length
      · have E : Hid (best2 (some x) (some y) = some x) := Lib.hid (by rw [hbz, if_pos (by simp [slLe, hlt])])
        have hi : (sa.size : Int) < (sb.size : Int) := by omega
        rw [E.out, hsa, hsb]
        clear hx hy hsa hsb hsx hsy hlx hly hbz hlt
        go_enter Tryd.func42, Tryd.ntmps42
        go_wp2_with fail
        go_ret2
        exact ⟨rfl, rfl⟩
      · have hd : decide ((sa.size : Int) < (sb.size : Int)) = false := decide_eq_false (by omega)
        have hd2 : decide (sa.size < sb.size) = false := decide_eq_false (by omega)
        have hd3 : ¬ sa.size < sb.size := by omega
        by_cases heq : x.length = y.length
        · have he : ((sa.size : Int) == (sb.size : Int)) = true := by rw [beq_iff_eq]; omega
          by_cases hle : lexLt y x = true
          · have E : Hid (best2 (some x) (some y) = some y) := Lib.hid (by rw [hbz, if_neg (by simp [slLe, hlt, hle])])
            have h1 : Op.bytesLess sa.toList sb.toList = false := by
              rw [less_lex, hsx, hsy]
              cases h : lexLt x y with
              | false => rfl
              | true =>
                have := lexLt_trans h hle
                rw [lexLt_irrefl] at this
                cases this
            have h2 : (sa.toList == sb.toList) = false := by
              rw [beq_eq_false_iff_ne]
              intro h
              rw [ByteArray.toList_eq, ByteArray.toList_eq] at h
              have : x = y := by rw [← hsx, ← hsy]; unfold chars; rw [h]
              rw [this, lexLt_irrefl] at hle
              cases hle
            rw [E.out, hsa, hsb]
            clear hx hy hsa hsb hsx hsy hlx hly hbz hlt heq hle
            go_enter Tryd.func42, Tryd.ntmps42
            go_wp2_with fail
            go_ret2
            exact ⟨rfl, rfl⟩
          · have hle : lexLt y x = false := by simpa using hle
            have E : Hid (best2 (some x) (some y) = some x) := Lib.hid (by rw [hbz, if_pos (by simp [slLe, heq, hle])])
            have h1 : (Op.bytesLess sa.toList sb.toList || sa.toList == sb.toList) = true := by
              rw [less_lex, hsx, hsy]
              rcases lexLt_total x y with h | h | h
              · rw [h]; rfl
              · have : sa = sb := chars_inj (by rw [hsx, hsy, h])
                rw [this, beq_self_eq_true, Bool.or_true]
              · rw [h] at hle; cases hle
            rw [E.out, hsa, hsb]
            clear hx hy hsa hsb hsx hsy hlx hly hbz hlt heq hle
            go_enter Tryd.func42, Tryd.ntmps42
            go_wp2_with fail
            go_ret2
            exact ⟨rfl, rfl⟩
        · have he : ((sa.size : Int) == (sb.size : Int)) = false := by rw [beq_eq_false_iff_ne]; omega
          have E : Hid (best2 (some x) (some y) = some y) := Lib.hid (by rw [hbz, if_neg (by simp [slLe, hlt, heq])])
          rw [E.out, hsa, hsb]
          clear hx hy hsa hsb hsx hsy hlx hly hbz hlt heq
          go_enter Tryd.func42, Tryd.ntmps42
          go_wp2_with fail
          go_ret2
          exact ⟨rfl, rfl⟩

end Go.Proofs.YtgnmanmlnbidfaaDoor
