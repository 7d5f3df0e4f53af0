/- Wildmat: a list with one pattern more, as plain lists. -/
import Derived.Test.YtgnmanmlnbidfaaDoorVerd
namespace Go.Proofs.YtgnmanmlnbidfaaDoor
open Go.RowKit

/-- The characters of a pattern's text. -/
def okc (c : Nat) : Bool := namedB c || decide (c = 63) || decide (c = 42) || decide (c = 91) || decide (c = 93) || decide (c = 94)

theorem okc_named {c : Nat} (h : namedB c = true) : okc c = true := by simp [okc, h]

theorem sort_named {c : Nat} (h : 0 < sortF c) : namedB c = true := by
  unfold sortF at h
  split at h
  · rename_i h1; simp [namedB]; omega
  · split at h
    · rename_i h1; simp [namedB]; omega
    · omega

theorem take_cons_ok {c : Nat} {r : List Nat} {m : Nat} (hm : m ≤ r.length) (hc : okc c = true) (h : ∀ x ∈ r.take (r.length - m), okc x = true) : ∀ x ∈ (c :: r).take ((c :: r).length - m), okc x = true := by
  intro x hx
  rw [List.length_cons, show r.length + 1 - m = (r.length - m) + 1 by omega, List.take_succ_cons] at hx
  rcases List.mem_cons.1 hx with rfl | hx
  · exact hc
  · exact h x hx

theorem items_ok : ∀ (n : Nat) (first : Bool) (acc l : List Nat) (r : List Nat) (m : Nat), itemsF n first acc l = some (r, m) → m ≤ l.length ∧ ∀ c ∈ l.take (l.length - m), okc c = true := by
  intro n
  induction n with
  | zero => intro first acc l r m h; cases l <;> simp [itemsF] at h
  | succ n ih =>
    intro first acc l r m h
    cases l with
    | nil => simp [itemsF] at h
    | cons c l =>
      rw [itemsF] at h
      split at h
      · rename_i hc
        split at h
        · cases h
        · simp only [Option.some.injEq, Prod.mk.injEq] at h
          obtain ⟨_, rfl⟩ := h
          refine ⟨by simp, take_cons_ok (Nat.le_refl _) (by rw [hc]; decide) (fun x hx => by rw [Nat.sub_self] at hx; cases hx)⟩
      · split at h
        · cases h
        · rename_i hc2
          have hcn : namedB c = true := by
            cases hh : namedB c with
            | true => rfl
            | false => exact absurd (.inl hh) hc2
          split at h
          · rename_i h3
            cases l with
            | nil => simp at h3
            | cons e l =>
              cases l with
              | nil => simp at h
              | cons d l' =>
                simp only [List.tail_cons] at h
                split at h
                · rename_i h4
                  obtain ⟨h5, h6⟩ := ih _ _ _ _ _ h
                  have hd : namedB d = true := by
                    simp only [rangeOk, Bool.and_eq_true, decide_eq_true_eq] at h4
                    exact sort_named (by omega)
                  have he : okc e = true := by
                    have : e = 45 := by simpa using h3.2
                    rw [this]; decide
                  have h7 := take_cons_ok h5 (okc_named hd) h6
                  have h8 := take_cons_ok (r := d :: l') (by simp; omega) he h7
                  exact ⟨by simp; omega, take_cons_ok (r := e :: d :: l') (by simp; omega) (okc_named hcn) h8⟩
                · cases h
          · obtain ⟨h5, h6⟩ := ih _ _ _ _ _ h
            exact ⟨by simp; omega, take_cons_ok h5 (okc_named hcn) h6⟩

theorem class_ok {r : List Nat} {e : El} {m : Nat} (h : classF r = some (e, m)) : m ≤ r.length ∧ ∀ c ∈ r.take (r.length - m), okc c = true := by
  unfold classF at h
  split at h
  · rename_i h1
    cases r with
    | nil => simp at h1
    | cons c r =>
      have hc : c = 94 := by simpa using h1
      rw [Option.map_eq_some_iff] at h
      obtain ⟨⟨x, m'⟩, h2, h3⟩ := h
      simp only [Prod.mk.injEq] at h3
      obtain ⟨_, rfl⟩ := h3
      obtain ⟨h5, h6⟩ := items_ok _ _ _ _ _ _ h2
      simp only [List.tail_cons] at h5 h6
      exact ⟨by simp; omega, take_cons_ok h5 (by rw [hc]; decide) h6⟩
  · rw [Option.map_eq_some_iff] at h
    obtain ⟨⟨x, m'⟩, h2, h3⟩ := h
    simp only [Prod.mk.injEq] at h3
    obtain ⟨_, rfl⟩ := h3
    exact items_ok _ _ _ _ _ _ h2

theorem compGo_ok : ∀ (n : Nat) (l : List Nat) (acc : List El), l.length < n → (compGo n l acc).2.2 = 0 → ∀ c ∈ l, okc c = true := by
  intro n
  induction n with
  | zero => intro l acc h; omega
  | succ n ih =>
    intro l acc hl h
    cases l with
    | nil => intro c hc; cases hc
    | cons c r =>
      rw [List.length_cons] at hl
      rw [compGo] at h
      intro x hx
      split at h
      · rename_i h1
        rcases List.mem_cons.1 hx with rfl | hx
        · exact okc_named h1
        · exact ih r _ (by omega) h x hx
      · split at h
        · rename_i h1
          rcases List.mem_cons.1 hx with rfl | hx
          · rw [h1]; decide
          · exact ih r _ (by omega) h x hx
        · split at h
          · rename_i h1
            rcases List.mem_cons.1 hx with rfl | hx
            · rw [h1]; decide
            · exact ih r _ (by omega) h x hx
          · split at h
            · rename_i h1
              rcases List.mem_cons.1 hx with rfl | hx
              · rw [h1]; decide
              · cases hcl : classF r with
                | none => rw [hcl] at h; simp at h
                | some q =>
                  obtain ⟨e, m⟩ := q
                  rw [hcl] at h
                  obtain ⟨h5, h6⟩ := class_ok hcl
                  rw [← List.take_append_drop (r.length - m) r] at hx
                  rcases List.mem_append.1 hx with hx | hx
                  · exact h6 x hx
                  · exact ih _ _ (by rw [List.length_drop]; omega) h x hx
            · simp at h

theorem comp_okc {l : List Nat} (h : (compF l).2.2 = 0) : ∀ c ∈ l, okc c = true := by
  unfold compF at h
  split at h
  · simp at h
  · split at h
    · simp at h
    · simp only at h
      split at h
      · rename_i h1
        exact compGo_ok _ _ _ (by omega) h1
      · rename_i h1
        exact absurd h h1

theorem listGo_snoc {x : ByteArray} {v q : Nat} {L : List El} (hm : markF (chars x) = (v, q)) (hL : compF ((chars x).drop q) = (L, 0, 0)) : ∀ (l : List ByteArray) (acc R : List (Nat × List El)) (pos : Nat),
    listGo l acc pos = (R, 0, 0) → R.length ≠ 64 → listGo (l ++ [x]) acc pos = (R ++ [(v, L)], 0, 0) := by
  intro l
  induction l with
  | nil =>
    intro acc R pos h hR
    simp only [listGo, Prod.mk.injEq, and_true] at h
    subst h
    rw [List.nil_append, listGo, if_neg hR]
    simp only [hm, hL, if_true, listGo]
  | cons t l ih =>
    intro acc R pos h hR
    rw [listGo] at h
    rw [List.cons_append, listGo]
    split at h
    · simp at h
    · rename_i h1
      rw [if_neg h1]
      simp only at h ⊢
      split at h
      · rename_i h2
        rw [if_pos h2]
        exact ih _ _ _ h hR
      · rename_i h2
        simp only [Prod.mk.injEq] at h
        exact absurd h.2.2 h2

theorem dat_append (a b : ByteArray) : (a ++ b).data.toList = a.data.toList ++ b.data.toList := by simp

theorem commas_snoc (n : Nat) : ∀ (s x : ByteArray), s.size ≤ n → (∀ j : Nat, x.data.toList[j]? ≠ some 44) → commas (s ++ cm ++ x) = commas s ++ [x] := by
  have hcm : cm.data.toList = [44] := rfl
  have key : ∀ (s x : ByteArray), (∀ j : Nat, x.data.toList[j]? ≠ some 44) → (∀ j : Nat, s.data.toList[j]? ≠ some 44) → commas (s ++ cm ++ x) = commas s ++ [x] := by
    intro s x hx hs
    have hl : s.data.toList.length = s.size := by simp
    rw [commas_miss hs, commas_hit (i := s.size) (by rw [dat_append, dat_append, hcm, List.append_assoc, List.getElem?_append_right (by omega), hl, Nat.sub_self]; rfl) (fun j hj => by
      rw [dat_append, dat_append, List.append_assoc, List.getElem?_append_left (by omega)]
      exact hs j)]
    have e1 : (s ++ cm ++ x).extract 0 s.size = s := by
      apply bytes_eq
      rw [Lib.extract_data, dat_append, dat_append, List.append_assoc, List.drop_zero, Nat.sub_zero, ← hl, List.take_left]
    have e2 : (s ++ cm ++ x).extract (s.size + 1) (s ++ cm ++ x).size = x := by
      apply bytes_eq
      have hsz : (s ++ cm ++ x).size - (s.size + 1) = x.data.toList.length := by
        rw [ByteArray.size_append, ByteArray.size_append]
        have : cm.size = 1 := rfl
        simp
        omega
      rw [Lib.extract_data, hsz, dat_append, dat_append, hcm]
      have : s.data.toList ++ [44] ++ x.data.toList = (s.data.toList ++ [44]) ++ x.data.toList := rfl
      rw [List.drop_append_of_le_length (by simp), List.drop_of_length_le (by simp), List.nil_append, List.take_length]
    rw [e1, e2, commas_miss hx]
    rfl
  induction n with
  | zero =>
    intro s x hs hx
    have hl : s.data.toList.length = s.size := by simp
    exact key s x hx (fun j e => by rw [List.getElem?_eq_none (by omega)] at e; cases e)
  | succ n ih =>
    intro s x hs hx
    rcases first_cm s with h | ⟨i, hi, h⟩
    · exact key s x hx h
    · have hl : s.data.toList.length = s.size := by simp
      have hlt : i < s.size := by
        rcases Nat.lt_or_ge i s.size with h' | h'
        · exact h'
        · rw [List.getElem?_eq_none (by omega)] at hi; cases hi
      rw [commas_hit hi h, commas_hit (s := s ++ cm ++ x) (i := i) (by rw [dat_append, dat_append, List.append_assoc, List.getElem?_append_left (by omega)]; exact hi) (fun j hj => by
        rw [dat_append, dat_append, List.append_assoc, List.getElem?_append_left (by omega)]
        exact h j hj)]
      have e1 : (s ++ cm ++ x).extract 0 i = s.extract 0 i := by
        apply bytes_eq
        rw [Lib.extract_data, Lib.extract_data, dat_append, dat_append, List.append_assoc, List.drop_zero, List.drop_zero, List.take_append_of_le_length (by omega)]
      have e2 : (s ++ cm ++ x).extract (i + 1) (s ++ cm ++ x).size = s.extract (i + 1) s.size ++ cm ++ x := by
        apply bytes_eq
        rw [Lib.extract_data, dat_append, dat_append, dat_append, dat_append, Lib.extract_data]
        rw [List.take_of_length_le (by simp; omega), List.take_of_length_le (l := s.data.toList.drop (i + 1)) (by simp), List.append_assoc, List.append_assoc, List.drop_append_of_le_length (by omega)]
      rw [e1, e2]
      have hr : s.extract (i + 1) s.size = rest s (i + 1) := rfl
      rw [hr, ih (rest s (i + 1)) x (by rw [rest_size]; omega) hx]
      rfl

/-- A list with a mark and a pattern more. -/
theorem parse_snoc {s x : ByteArray} {v q : Nat} {L : List El} {R : List (Nat × List El)} (h : parseF s = (R, 0, 0)) (hR : R.length ≠ 64) (hx : ∀ c ∈ chars x, c ≠ 44) (hm : markF (chars x) = (v, q)) (hL : compF ((chars x).drop q) = (L, 0, 0)) :
    parseF (s ++ cm ++ x) = (R ++ [(v, L)], 0, 0) := by
  unfold parseF at h ⊢
  split at h
  · simp at h
  · rename_i h0
    have hx' : ∀ j : Nat, x.data.toList[j]? ≠ some 44 := fun j e => by
      have := (ch_iff x j).1 e
      refine hx 44 ?_ rfl
      rw [chars]
      exact List.mem_map.2 ⟨44, List.mem_of_getElem? e, rfl⟩
    rw [if_neg (by rw [ByteArray.size_append, ByteArray.size_append]; omega), commas_snoc _ s x (Nat.le_refl _) hx']
    exact listGo_snoc hm hL _ _ _ _ h hR

theorem verd_snoc (its : List (Nat × List El)) (v : Nat) (L : List El) (l : List Nat) : verdF (its ++ [(v, L)]) l = if matchF L l = true then v else verdF its l := by
  unfold verdF
  rw [List.foldl_append]
  rfl

end Go.Proofs.YtgnmanmlnbidfaaDoor
