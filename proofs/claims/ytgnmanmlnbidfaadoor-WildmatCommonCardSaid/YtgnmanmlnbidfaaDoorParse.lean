/- Wildmat: what a pattern's text denotes, as plain mathematics. -/
import Derived.Test.YtgnmanmlnbidfaaDoorEl
namespace Go.Proofs.YtgnmanmlnbidfaaDoor

def sortF (c : Nat) : Nat := if 97 ≤ c ∧ c ≤ 122 then 1 else if 48 ≤ c ∧ c ≤ 57 then 2 else 0
/-- The characters from one to another. -/
def rangeL (a b : Nat) : List Nat := (List.range (b + 1 - a)).map (a + ·)

/-- May a range go from one character to another? -/
def rangeOk (c d : Nat) : Bool := decide (0 < sortF c) && decide (sortF c = sortF d) && decide (c ≤ d)

/-- The items of a class: the characters, and how many bytes are left behind its end. -/
def itemsF : Nat → Bool → List Nat → List Nat → Option (List Nat × Nat)
  | 0, _, _, _ => none
  | _ + 1, _, _, [] => none
  | n + 1, first, acc, c :: r =>
    if c = 93 then (if first = true then none else some (acc, r.length))
    else if namedB c = false ∨ (c = 45 ∧ first = false) then none
    else if c ≠ 45 ∧ r.head? = some 45 then
      (match r.tail with
      | [] => none
      | d :: r' => if rangeOk c d = true then itemsF n false (acc ++ rangeL c d) r' else none)
    else itemsF n false (acc ++ [c]) r

/-- The class whose text follows its bracket: the element, and how many bytes are left. -/
def classF (r : List Nat) : Option (El × Nat) :=
  if r.head? = some 94 then (itemsF (r.length + 1) true [] r.tail).map fun x => (El.cls x.1 true, x.2)
  else (itemsF (r.length + 1) true [] r).map fun x => (El.cls x.1 false, x.2)

/-- The elements of a text: the elements, the bytes that are left where an error is, and the error. -/
def compGo : Nat → List Nat → List El → List El × Nat × Nat
  | 0, _, acc => (acc, 0, 0)
  | _ + 1, [], acc => (acc, 0, 0)
  | n + 1, c :: r, acc =>
    if namedB c = true then compGo n r (acc ++ [.one c])
    else if c = 63 then compGo n r (acc ++ [.cls [] true])
    else if c = 42 then compGo n r (acc ++ [.star])
    else if c = 91 then
      (match classF r with
      | none => ([], r.length + 1, 3)
      | some (e, m) => compGo n (r.drop (r.length - m)) (acc ++ [e]))
    else ([], r.length + 1, 6)

/-- What Compile answers: the elements, the offset of an error, the error. -/
def compF (l : List Nat) : List El × Nat × Nat :=
  if l.length = 0 then ([], 0, 4)
  else if 80 < l.length then ([], 80, 5)
  else
    let R := compGo (l.length + 1) l []
    if R.2.2 = 0 then (R.1, 0, 0) else ([], l.length - R.2.1, R.2.2)

theorem drop_at {l : List Nat} {k : Nat} (h : k < l.length) : l.drop k = l.getD k 0 :: l.drop (k + 1) := by
  rw [List.drop_eq_getElem_cons h, List.getD_eq_getElem?_getD, List.getElem?_eq_getElem h]; rfl

theorem head_at (l : List Nat) (k : Nat) (c : Nat) (hc : c ≠ 0) : (l.drop k).head? = some c ↔ l.getD k 0 = c := by
  rw [List.head?_drop, List.getD_eq_getElem?_getD]
  cases l[k]? with
  | none => simp; omega
  | some x => simp

theorem items_end (n : Nat) (first : Bool) (acc l : List Nat) {k : Nat} (h : l.length ≤ k) : itemsF n first acc (l.drop k) = none := by
  rw [List.drop_eq_nil_of_le h]
  cases n <;> rfl

theorem items_close (n : Nat) (first : Bool) (acc l : List Nat) {k : Nat} (h : k < l.length) (hc : l.getD k 0 = 93) :
    itemsF (n + 1) first acc (l.drop k) = if first = true then none else some (acc, l.length - (k + 1)) := by
  rw [drop_at h, hc, itemsF, if_pos rfl, List.length_drop]

theorem items_bad (n : Nat) (first : Bool) (acc l : List Nat) {k : Nat} (h : k < l.length) (hc : l.getD k 0 ≠ 93) (hb : namedB (l.getD k 0) = false ∨ (l.getD k 0 = 45 ∧ first = false)) :
    itemsF (n + 1) first acc (l.drop k) = none := by
  rw [drop_at h, itemsF, if_neg hc, if_pos hb]

theorem items_plain (n : Nat) (first : Bool) (acc l : List Nat) {k : Nat} (h : k < l.length) (hn : namedB (l.getD k 0) = true) (hb : (l.getD k 0 = 45 ∧ first = true) ∨ (l.getD k 0 ≠ 45 ∧ l.getD (k + 1) 0 ≠ 45)) :
    itemsF (n + 1) first acc (l.drop k) = itemsF n false (acc ++ [l.getD k 0]) (l.drop (k + 1)) := by
  have hc : l.getD k 0 ≠ 93 := by intro e; rw [e] at hn; revert hn; decide
  rw [drop_at h, itemsF, if_neg hc, if_neg, if_neg]
  · rintro ⟨h1, h2⟩
    rw [head_at _ _ _ (by omega)] at h2
    rcases hb with ⟨h3, _⟩ | ⟨_, h3⟩
    · exact h1 h3
    · exact h3 h2
  · rintro (h1 | ⟨h1, h2⟩)
    · rw [hn] at h1; cases h1
    · rcases hb with ⟨_, h3⟩ | ⟨h3, _⟩
      · rw [h3] at h2; cases h2
      · exact h3 h1

theorem items_range (n : Nat) (first : Bool) (acc l : List Nat) {k : Nat} (h : k + 2 < l.length) (hn : namedB (l.getD k 0) = true) (h1 : l.getD k 0 ≠ 45) (h2 : l.getD (k + 1) 0 = 45) (h3 : rangeOk (l.getD k 0) (l.getD (k + 2) 0) = true) :
    itemsF (n + 1) first acc (l.drop k) = itemsF n false (acc ++ rangeL (l.getD k 0) (l.getD (k + 2) 0)) (l.drop (k + 3)) := by
  have hc : l.getD k 0 ≠ 93 := by intro e; rw [e] at hn; revert hn; decide
  rw [drop_at (by omega : k < l.length), itemsF, if_neg hc, if_neg, if_pos ⟨h1, (head_at _ _ _ (by omega)).2 h2⟩]
  · rw [List.tail_drop, drop_at (k := k + 1 + 1) (by omega)]
    simp only
    rw [if_pos h3]
  · rintro (h4 | ⟨h4, _⟩)
    · rw [hn] at h4; cases h4
    · exact h1 h4

theorem items_norange (n : Nat) (first : Bool) (acc l : List Nat) {k : Nat} (h : k + 1 < l.length) (hn : namedB (l.getD k 0) = true) (h1 : l.getD k 0 ≠ 45) (h2 : l.getD (k + 1) 0 = 45) (h3 : l.length ≤ k + 2 ∨ rangeOk (l.getD k 0) (l.getD (k + 2) 0) = false) :
    itemsF (n + 1) first acc (l.drop k) = none := by
  have hc : l.getD k 0 ≠ 93 := by intro e; rw [e] at hn; revert hn; decide
  rw [drop_at (by omega : k < l.length), itemsF, if_neg hc, if_neg, if_pos ⟨h1, (head_at _ _ _ (by omega)).2 h2⟩]
  · rw [List.tail_drop]
    rcases Nat.lt_or_ge (k + 2) l.length with h4 | h4
    · rw [drop_at (k := k + 1 + 1) (by omega)]
      simp only
      rw [if_neg]
      rcases h3 with h3 | h3
      · omega
      · rw [h3]; simp
    · rw [List.drop_eq_nil_of_le (by omega)]
  · rintro (h4 | ⟨h4, _⟩)
    · rw [hn] at h4; cases h4
    · exact h1 h4

theorem items_len : ∀ (n : Nat) (first : Bool) (acc l : List Nat) (x : List Nat × Nat), itemsF n first acc l = some x → x.2 < l.length := by
  intro n
  induction n with
  | zero => intro _ _ _ _ h; cases h
  | succ n ih =>
    intro first acc l x h
    cases l with
    | nil => cases h
    | cons c r =>
      rw [itemsF] at h
      split at h
      · split at h
        · cases h
        · cases h; simp
      · split at h
        · cases h
        · split at h
          · split at h
            · cases h
            · rename_i d r' hr
              split at h
              · have h1 := ih _ _ _ _ h
                have h2 := congrArg List.length hr
                simp at h2 ⊢
                omega
              · cases h
          · have := ih _ _ _ _ h
            simp; omega

theorem class_len {r : List Nat} {e : El} {m : Nat} (h : classF r = some (e, m)) : m < r.length := by
  unfold classF at h
  split at h
  · rw [Option.map_eq_some_iff] at h
    obtain ⟨x, hx, he⟩ := h
    have := items_len _ _ _ _ _ hx
    simp at this
    cases he; omega
  · rw [Option.map_eq_some_iff] at h
    obtain ⟨x, hx, he⟩ := h
    have := items_len _ _ _ _ _ hx
    cases he; omega

theorem class_cls {r : List Nat} {e : El} {m : Nat} (h : classF r = some (e, m)) : ∃ s i, e = .cls s i := by
  unfold classF at h
  split at h <;>
  · rw [Option.map_eq_some_iff] at h
    obtain ⟨x, _, he⟩ := h
    cases he
    exact ⟨_, _, rfl⟩

/-- Each element of a text is a good one, and there are no more than bytes. -/
theorem comp_ok : ∀ (n : Nat) (l : List Nat) (acc : List El), (∀ e ∈ acc, e.ok) → (∀ e ∈ (compGo n l acc).1, e.ok) ∧ (compGo n l acc).1.length ≤ acc.length + l.length := by
  intro n
  induction n with
  | zero => intro l acc h; exact ⟨h, by simp [compGo]⟩
  | succ n ih =>
    intro l acc h
    cases l with
    | nil => exact ⟨h, by simp [compGo]⟩
    | cons c r =>
      have hx : ∀ e : El, e.ok → ∀ x ∈ acc ++ [e], x.ok := by
        intro e he x hx
        rcases List.mem_append.1 hx with hx | hx
        · exact h x hx
        · obtain rfl : x = e := by simpa using hx
          exact he
      rw [compGo]
      split
      · rename_i hc
        have := ih r _ (hx (.one c) hc)
        simp at this ⊢
        exact ⟨this.1, by omega⟩
      · split
        · have := ih r _ (hx (.cls [] true) trivial)
          simp at this ⊢
          exact ⟨this.1, by omega⟩
        · split
          · have := ih r _ (hx .star trivial)
            simp at this ⊢
            exact ⟨this.1, by omega⟩
          · split
            · split
              · simp
              · rename_i e m hcl
                obtain ⟨s, i, rfl⟩ := class_cls hcl
                have := ih (r.drop (r.length - m)) _ (hx (.cls s i) trivial)
                have hm := class_len hcl
                simp at this ⊢
                exact ⟨this.1, by omega⟩
            · simp

theorem compF_ok (l : List Nat) : ∀ e ∈ (compF l).1, e.ok := by
  unfold compF
  split
  · simp
  · split
    · simp
    · simp only
      split
      · exact (comp_ok _ l [] (by simp)).1
      · simp

theorem compF_len (l : List Nat) : (compF l).1.length ≤ 80 := by
  unfold compF
  split
  · simp
  · split
    · simp
    · simp only
      split
      · have := (comp_ok (l.length + 1) l [] (by simp)).2
        simp only [List.length_nil, Nat.zero_add] at this
        show (compGo (l.length + 1) l []).1.length ≤ 80
        omega
      · simp

theorem compF_err (l : List Nat) (h : (compF l).2.2 ≠ 0) : (compF l).1 = [] := by
  unfold compF at h ⊢
  split
  · rfl
  · split
    · rfl
    · simp only
      rw [if_neg ‹_›, if_neg ‹_›] at h
      simp only at h
      split
      · rename_i h1
        rw [if_pos h1] at h
        exact absurd rfl h
      · rfl

/-- A text of name characters denotes the elements that stand for themselves. -/
theorem comp_ones : ∀ (n : Nat) (l : List Nat) (acc : List El), l.length < n → (∀ c ∈ l, namedB c = true) → compGo n l acc = (acc ++ l.map El.one, 0, 0) := by
  intro n
  induction n with
  | zero => intro l acc h; omega
  | succ n ih =>
    intro l acc h hl
    cases l with
    | nil => simp [compGo]
    | cons c r =>
      rw [compGo, if_pos (hl c (by simp)), ih r _ (by simp at h; omega) (fun x hx => hl x (by simp [hx]))]
      simp

theorem compF_ones (l : List Nat) (h0 : l.length ≠ 0) (h80 : l.length ≤ 80) (hl : ∀ c ∈ l, namedB c = true) : compF l = (l.map El.one, 0, 0) := by
  unfold compF
  rw [if_neg h0, if_neg (by omega)]
  simp only
  rw [comp_ones _ l [] (by omega) hl]
  simp

end Go.Proofs.YtgnmanmlnbidfaaDoor
