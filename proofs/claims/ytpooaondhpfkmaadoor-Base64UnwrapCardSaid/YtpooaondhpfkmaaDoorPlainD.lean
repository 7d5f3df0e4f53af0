/- Base64 over lists of numbers: what Decode computes, step by step. No program in sight. -/
import Derived.Test.YtpooaondhpfkmaaDoorPlain
namespace Go.Proofs.YtpooaondhpfkmaaDoor

/-- The value of a character. -/
def posN (c : Nat) : Option Nat := alphaN.findIdx? (· == c)

theorem posN_some {c p : Nat} (h : posN c = some p) : p < 64 ∧ chN p = c := by
  unfold posN at h
  rw [List.findIdx?_eq_some_iff_getElem] at h
  obtain ⟨hp, h1, _⟩ := h
  refine ⟨hp, ?_⟩
  unfold chN
  rw [List.getD_eq_getElem?_getD, List.getElem?_eq_getElem hp]
  simpa using h1

theorem posN_chN (p : Nat) (hp : p < 64) : posN (chN p) = some p := by
  have : ∀ p, p < 64 → posN (chN p) = some p := by decide
  exact this p hp

theorem posN_none {c : Nat} (h : posN c = none) (p : Nat) (hp : p < 64) : chN p ≠ c := by
  intro e
  rw [← e, posN_chN p hp] at h
  cases h

def decStep (d : St) (p : Nat) : St :=
  if d.n = 0 then ⟨6, d.v * 64 + p, d.o⟩
  else if d.n = 6 then ⟨4, (d.v * 64 + p) % 16, d.o ++ [(d.v * 64 + p) / 16]⟩
  else if d.n = 4 then ⟨2, (d.v * 64 + p) % 4, d.o ++ [(d.v * 64 + p) / 4]⟩
  else ⟨0, 0, d.o ++ [d.v * 64 + p]⟩

def decSt (ps : List Nat) : St := ps.foldl decStep ⟨0, 0, []⟩

theorem decSt_snoc (l : List Nat) (c : Nat) : decSt (l ++ [c]) = decStep (decSt l) c := by simp [decSt]

theorem decSt_inv (l : List Nat) (hl : ∀ x ∈ l, x < 64) : ((decSt l).n = 0 ∧ (decSt l).v < 1 ∨ (decSt l).n = 6 ∧ (decSt l).v < 64 ∨ (decSt l).n = 4 ∧ (decSt l).v < 16 ∨ (decSt l).n = 2 ∧ (decSt l).v < 4) ∧ (decSt l).o.length ≤ l.length := by
  revert hl
  refine snoc_ind (P := fun l => (∀ x ∈ l, x < 64) → ((decSt l).n = 0 ∧ (decSt l).v < 1 ∨ (decSt l).n = 6 ∧ (decSt l).v < 64 ∨ (decSt l).n = 4 ∧ (decSt l).v < 16 ∨ (decSt l).n = 2 ∧ (decSt l).v < 4) ∧ (decSt l).o.length ≤ l.length) ?_ ?_ l
  · intro _; simp [decSt]
  · intro l c ih hl
    have ih' := ih (fun x hx => hl x (by simp [hx]))
    rw [decSt_snoc]
    have hc : c < 64 := hl c (by simp)
    obtain ⟨h, hlen⟩ := ih'
    rcases h with ⟨h, h2⟩ | ⟨h, h2⟩ | ⟨h, h2⟩ | ⟨h, h2⟩
    · simp [decStep, h]; omega
    · simp [decStep, h]; omega
    · simp [decStep, h]; omega
    · simp [decStep, h]; omega

theorem decSt_lt (l : List Nat) (hl : ∀ x ∈ l, x < 64) : ∀ x ∈ (decSt l).o, x < 256 := by
  revert hl
  refine snoc_ind (P := fun l => (∀ x ∈ l, x < 64) → ∀ x ∈ (decSt l).o, x < 256) ?_ ?_ l
  · intro _ x hx; simp [decSt] at hx
  · intro l c ih hl x hx
    have ih' := ih (fun x hx => hl x (by simp [hx]))
    have hi := (decSt_inv l (fun x hx => hl x (by simp [hx]))).1
    have hc : c < 64 := hl c (by simp)
    rw [decSt_snoc, decStep] at hx
    rcases hi with ⟨h, h2⟩ | ⟨h, h2⟩ | ⟨h, h2⟩ | ⟨h, h2⟩
    · simp only [h, if_true] at hx; exact ih' x hx
    · rw [if_neg (by omega), if_pos h] at hx
      simp only [List.mem_append, List.mem_singleton] at hx
      rcases hx with h | rfl
      · exact ih' x h
      · omega
    · rw [if_neg (by omega), if_neg (by omega), if_pos h] at hx
      simp only [List.mem_append, List.mem_singleton] at hx
      rcases hx with h | rfl
      · exact ih' x h
      · omega
    · rw [if_neg (by omega), if_neg (by omega), if_neg (by omega)] at hx
      simp only [List.mem_append, List.mem_singleton] at hx
      rcases hx with h | rfl
      · exact ih' x h
      · omega

def okC (c : Nat) : Bool := (posN c).isSome
def posL (l : List Nat) : List Nat := l.map fun c => (posN c).getD 0

theorem posL_lt (l : List Nat) : ∀ x ∈ posL l, x < 64 := by
  intro x hx
  simp only [posL, List.mem_map] at hx
  obtain ⟨c, _, rfl⟩ := hx
  cases h : posN c with
  | none => decide
  | some p => exact (posN_some h).1

/-- How many characters stand ahead of the first that has no value. -/
def vlen (l : List Nat) : Nat := (l.takeWhile okC).length

def inPl (l : List Nat) (k : Nat) : Bool := decide (l.length % 4 = 0) && (decide (k + 1 = l.length) || (decide (k + 2 = l.length) && decide (l.getD (l.length - 1) 0 = 61)))

/-- What stands behind the loop. -/
def finD (l : List Nat) (k : Nat) (d : St) : List Nat × Nat × Nat := if l.length % 4 ≠ 0 then ([], l.length, 4) else if d.v ≠ 0 then ([], k - 1, 3) else (d.o, 0, 0)

/-- What Decode gives: the bytes, the place, the error. -/
def decodeL (l : List Nat) : List Nat × Nat × Nat :=
  if vlen l < l.length ∧ ¬ (l.getD (vlen l) 0 = 61 ∧ inPl l (vlen l) = true) then ([], vlen l, 6)
  else finD l (vlen l) (decSt (posL (l.take (vlen l))))

theorem vlen_at {l : List Nat} {k : Nat} (h : ∀ c ∈ l.take k, okC c = true) (hk : k < l.length) (hn : okC (l.getD k 0) = false) : vlen l = k := by
  have e : l = l.take k ++ l.drop k := (List.take_append_drop k l).symm
  have hd : l.drop k = l.getD k 0 :: l.drop (k + 1) := by
    rw [List.drop_eq_getElem_cons hk]; simp [List.getD_eq_getElem?_getD, hk]
  unfold vlen
  rw [e, List.takeWhile_append_of_pos h, hd, List.takeWhile_cons_of_neg (by rw [hn]; simp)]
  simp; omega

theorem vlen_all {l : List Nat} (h : ∀ c ∈ l, okC c = true) : vlen l = l.length := by
  unfold vlen
  have := List.takeWhile_append_of_pos (l₁ := l) (l₂ := []) h
  simp at this
  rw [this]

theorem decodeL_bad {l : List Nat} {k : Nat} (h : ∀ c ∈ l.take k, okC c = true) (hk : k < l.length) (hn : okC (l.getD k 0) = false) (hb : ¬ (l.getD k 0 = 61 ∧ inPl l k = true)) : decodeL l = ([], k, 6) := by
  unfold decodeL
  rw [vlen_at h hk hn, if_pos ⟨hk, hb⟩]

theorem decodeL_break {l : List Nat} {k : Nat} (h : ∀ c ∈ l.take k, okC c = true) (hk : k < l.length) (hn : okC (l.getD k 0) = false) (hb : l.getD k 0 = 61 ∧ inPl l k = true) : decodeL l = finD l k (decSt (posL (l.take k))) := by
  unfold decodeL
  rw [vlen_at h hk hn, if_neg (fun x => x.2 hb)]

theorem decodeL_end {l : List Nat} (h : ∀ c ∈ l, okC c = true) : decodeL l = finD l l.length (decSt (posL (l.take l.length))) := by
  unfold decodeL
  rw [vlen_all h, if_neg (by omega)]

end Go.Proofs.YtpooaondhpfkmaaDoor
