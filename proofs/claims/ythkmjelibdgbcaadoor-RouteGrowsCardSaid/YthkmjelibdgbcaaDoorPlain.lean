/- Route: the plain laws: what Parse accepts, texts and their names. -/
import Derived.Test.YthkmjelibdgbcaaDoorKnown
namespace Go.Proofs.YthkmjelibdgbcaaDoor
open Go.RowKit

theorem names_ne (s : ByteArray) : names s ≠ [] := by
  intro e
  have := names_length s
  rw [e] at this
  simp at this

theorem textF_one (x : ByteArray) : textF [x] = x := by
  apply bytes_eq
  simp [textF, dl, Lib.join_one]

theorem textF_cons {x : ByteArray} {l : List ByteArray} (h : l ≠ []) : textF (x :: l) = ⟨(x.data.toList ++ 33 :: (textF l).data.toList).toArray⟩ := by
  cases l with
  | nil => exact absurd rfl h
  | cons y l =>
    apply bytes_eq
    simp only [textF, dl, List.map_cons, Lib.join_cons]
    simp [Lib.joinTail]

theorem first_bang (s : ByteArray) : (∀ j : Nat, s.data.toList[j]? ≠ some 33) ∨ ∃ i : Nat, s.data.toList[i]? = some 33 ∧ ∀ j : Nat, j < i → s.data.toList[j]? ≠ some 33 := by
  rcases Lib.index_spec s.data.toList [33] with ⟨_, h⟩ | ⟨i, _, _, hi, h⟩
  · left
    intro j e
    rcases Nat.lt_or_ge s.data.toList.length j with h' | h'
    · rw [List.getElem?_eq_none (by omega)] at e; cases e
    · have := h j h'
      rw [(occ_iff _ _).2 e] at this
      cases this
  · right
    refine ⟨i, (occ_iff _ _).1 hi, fun j hj e => ?_⟩
    have := h j hj
    rw [(occ_iff _ _).2 e] at this
    cases this

theorem text_names (n : Nat) : ∀ s : ByteArray, s.size ≤ n → textF (names s) = s := by
  induction n with
  | zero =>
    intro s hs
    have hl : s.data.toList.length = s.size := by simp
    rw [names_miss (fun j e => by rw [List.getElem?_eq_none (by omega)] at e; cases e), textF_one]
  | succ n ih =>
    intro s hs
    rcases first_bang s with h | ⟨i, hi, h⟩
    · rw [names_miss h, textF_one]
    · have hl : s.data.toList.length = s.size := by simp
      have hlt : i < s.size := by
        rcases Nat.lt_or_ge i s.size with h' | h'
        · exact h'
        · rw [List.getElem?_eq_none (by omega)] at hi; cases hi
      rw [names_hit hi h]
      have hr : s.extract (i + 1) s.size = rest s (i + 1) := rfl
      rw [hr, textF_cons (names_ne _), ih (rest s (i + 1)) (by rw [rest_size]; omega)]
      apply bytes_eq
      simp only [rest, Lib.extract_data, List.drop_zero, Nat.sub_zero]
      rw [List.getElem?_eq_getElem (by omega)] at hi
      have e : s.data.toList = s.data.toList.take i ++ (s.data.toList[i] :: s.data.toList.drop (i + 1)) := by
        rw [← List.drop_eq_getElem_cons, List.take_append_drop]
      rw [Option.some.inj hi] at e
      rw [List.take_of_length_le (l := s.data.toList.drop (i + 1)) (by simp)]
      exact e.symm

theorem parseGo_ok : ∀ (l out : List ByteArray) (a : Nat), (parseGo out a l).2.2 = 0 → (parseGo out a l).1 = out ++ l := by
  intro l
  induction l with
  | nil => intro out a _; simp [parseGo]
  | cons x l ih =>
    intro out a h
    rw [parseGo_cons] at h ⊢
    split at h
    · cases h
    · split at h
      · rename_i h1 h2
        exact absurd h h2
      · rename_i h1 h2
        rw [if_neg h1, if_neg h2, ih _ _ h]
        simp

theorem parseGo_len : ∀ (l out : List ByteArray) (a : Nat), out.length ≤ 50 → (parseGo out a l).1.length ≤ 50 := by
  intro l
  induction l with
  | nil => intro out a h; exact h
  | cons x l ih =>
    intro out a h
    rw [parseGo_cons]
    split
    · simp
    · split
      · simp
      · exact ih _ _ (by simp; omega)

theorem parse_len (s : ByteArray) : (parseF s).1.length ≤ 50 := by
  unfold parseF
  split
  · simp
  · exact parseGo_len _ _ _ (by simp)

/-- What Parse accepts is its result's text. -/
theorem parse_text {s : ByteArray} (h : (parseF s).2.2 = 0) : textF (parseF s).1 = s := by
  unfold parseF at h ⊢
  split at h
  · rename_i h0
    rw [if_pos h0]
    have : s = ByteArray.empty := ByteArray.ext (Array.eq_empty_of_size_eq_zero h0)
    rw [this]; rfl
  · rename_i h0
    rw [if_neg h0, parseGo_ok _ _ _ h, List.nil_append]
    exact text_names s.size s (Nat.le_refl _)

end Go.Proofs.YthkmjelibdgbcaaDoor
