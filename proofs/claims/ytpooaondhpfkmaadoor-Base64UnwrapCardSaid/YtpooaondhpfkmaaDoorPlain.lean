/- Base64 over lists of numbers: what encode() computes, step by step, and that it is the encoding by groups of three. No program in sight. -/
namespace Go.Proofs.YtpooaondhpfkmaaDoor

/-- The 64 characters. -/
def alphaN : List Nat := [65, 66, 67, 68, 69, 70, 71, 72, 73, 74, 75, 76, 77, 78, 79, 80, 81, 82, 83, 84, 85, 86, 87, 88, 89, 90, 97, 98, 99, 100, 101, 102, 103, 104, 105, 106, 107, 108, 109, 110, 111, 112, 113, 114, 115, 116, 117, 118, 119, 120, 121, 122, 48, 49, 50, 51, 52, 53, 54, 55, 56, 57, 43, 47]
def chN (n : Nat) : Nat := alphaN.getD n 0

theorem chN_lt (n : Nat) : chN n < 256 := by
  by_cases h : n < 64
  · have : ∀ n, n < 64 → chN n < 256 := by decide
    exact this n h
  · unfold chN
    rw [List.getD_eq_getElem?_getD, List.getElem?_eq_none (by show 64 ≤ n; omega)]
    decide

/-- A state of the encoder: how many bits wait, their value, the characters so far. -/
structure St where
  n : Nat
  v : Nat
  o : List Nat

def encStep (s : St) (c : Nat) : St :=
  if s.n = 0 then ⟨2, (s.v * 256 + c) % 4, s.o ++ [chN ((s.v * 256 + c) / 4)]⟩
  else if s.n = 2 then ⟨4, (s.v * 256 + c) % 16, s.o ++ [chN ((s.v * 256 + c) / 16)]⟩
  else ⟨0, 0, s.o ++ [chN ((s.v * 256 + c) / 64)] ++ [chN ((s.v * 256 + c) % 64)]⟩

def encSt (l : List Nat) : St := l.foldl encStep ⟨0, 0, []⟩

def flush (s : St) : List Nat := if s.n = 0 then s.o else if s.n = 2 then s.o ++ [chN (s.v * 16)] else s.o ++ [chN (s.v * 4)]

/-- Equals signs up to a multiple of four. -/
def padN (o : List Nat) : List Nat := o ++ List.replicate ((4 - o.length % 4) % 4) 61

def encL (l : List Nat) : List Nat := padN (flush (encSt l))

theorem encSt_snoc (l : List Nat) (c : Nat) : encSt (l ++ [c]) = encStep (encSt l) c := by simp [encSt]

theorem snoc_ind {α : Type} {P : List α → Prop} (h0 : P []) (h1 : ∀ l c, P l → P (l ++ [c])) (l : List α) : P l := by
  have h : ∀ l : List α, P l.reverse := by
    intro l
    induction l with
    | nil => exact h0
    | cons c l ih => rw [List.reverse_cons]; exact h1 _ _ ih
  simpa using h l.reverse

theorem encSt_inv (l : List Nat) (hl : ∀ x ∈ l, x < 256) : ((encSt l).n = 0 ∧ (encSt l).v = 0 ∨ (encSt l).n = 2 ∧ (encSt l).v < 4 ∨ (encSt l).n = 4 ∧ (encSt l).v < 16) ∧ (encSt l).o.length ≤ 2 * l.length := by
  revert hl
  refine snoc_ind (P := fun l => (∀ x ∈ l, x < 256) → ((encSt l).n = 0 ∧ (encSt l).v = 0 ∨ (encSt l).n = 2 ∧ (encSt l).v < 4 ∨ (encSt l).n = 4 ∧ (encSt l).v < 16) ∧ (encSt l).o.length ≤ 2 * l.length) ?_ ?_ l
  · intro _; simp [encSt]
  · intro l c ih hl
    have ih' := ih (fun x hx => hl x (by simp [hx]))
    rw [encSt_snoc]
    have hc : c < 256 := hl c (by simp)
    obtain ⟨h, hlen⟩ := ih'
    rcases h with ⟨h, h2⟩ | ⟨h, h2⟩ | ⟨h, h2⟩
    · simp [encStep, h]; omega
    · simp [encStep, h]; omega
    · simp [encStep, h]; omega

theorem encL_eq (l : List Nat) : encL l = padN (flush (encSt l)) := rfl

theorem encSt_lt (l : List Nat) : ∀ x ∈ (encSt l).o, x < 256 := by
  refine snoc_ind (P := fun l => ∀ x ∈ (encSt l).o, x < 256) ?_ ?_ l
  · intro x hx; simp [encSt] at hx
  · intro l c ih x hx
    rw [encSt_snoc, encStep] at hx
    split at hx
    · simp only [List.mem_append, List.mem_singleton] at hx
      rcases hx with h | rfl
      · exact ih x h
      · exact chN_lt _
    · split at hx
      · simp only [List.mem_append, List.mem_singleton] at hx
        rcases hx with h | rfl
        · exact ih x h
        · exact chN_lt _
      · simp only [List.mem_append, List.mem_singleton] at hx
        rcases hx with (h | rfl) | rfl
        · exact ih x h
        · exact chN_lt _
        · exact chN_lt _

theorem encL_lt (l : List Nat) : ∀ x ∈ encL l, x < 256 := by
  intro x hx
  rw [encL_eq, padN, List.mem_append] at hx
  rcases hx with h | h
  · have := encSt_lt l
    unfold flush at h
    split at h
    · exact this x h
    · split at h
      · rcases List.mem_append.1 h with h | h
        · exact this x h
        · rw [List.mem_singleton] at h; subst h; exact chN_lt _
      · rcases List.mem_append.1 h with h | h
        · exact this x h
        · rw [List.mem_singleton] at h; subst h; exact chN_lt _
  · have := List.eq_of_mem_replicate h
    omega

end Go.Proofs.YtpooaondhpfkmaaDoor
