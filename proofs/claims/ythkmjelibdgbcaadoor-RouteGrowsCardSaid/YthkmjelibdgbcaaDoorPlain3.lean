/- Route: plain laws on common ends. -/
import Derived.Test.YthkmjelibdgbcaaDoorPlain2
namespace Go.Proofs.YthkmjelibdgbcaaDoor
open Go.RowKit

theorem eqEnd_symm (a b : List ByteArray) (n : Nat) : eqEnd a b n = eqEnd b a n := by
  rw [Bool.eq_iff_iff]
  simp only [eqEnd, Bool.and_eq_true, decide_eq_true_eq]
  constructor
  · rintro ⟨⟨h1, h2⟩, h3⟩; exact ⟨⟨h2, h1⟩, h3.symm⟩
  · rintro ⟨⟨h1, h2⟩, h3⟩; exact ⟨⟨h2, h1⟩, h3.symm⟩

theorem com_spec (a b : List ByteArray) : comN a b ≤ a.length ∧ (∀ j, j < comN a b → eqEnd a b j = true) ∧ eqEnd a b (comN a b) = false := by
  have hl : eqEnd a b a.length = false := by simp [eqEnd]
  cases h : firstI (fun n => !eqEnd a b n) (a.length + 1) with
  | none =>
    unfold firstI at h
    rw [List.find?_eq_none] at h
    have := h a.length (by simp)
    simp [hl] at this
  | some i =>
    have hi := firstI_lt h
    have e : comN a b = i := by unfold comN; rw [h]; rfl
    unfold firstI at h
    rw [List.find?_range_eq_some] at h
    obtain ⟨h1, _, h3⟩ := h
    rw [e]
    exact ⟨by omega, fun j hj => by simpa using h3 j hj, by simpa using h1⟩

theorem com_le_right (a b : List ByteArray) : comN a b ≤ b.length := by
  obtain ⟨_, h, _⟩ := com_spec a b
  rcases Nat.lt_or_ge b.length (comN a b) with h1 | h1
  · have := h _ h1
    simp [eqEnd] at this
  · exact h1

theorem comN_symm (a b : List ByteArray) : comN b a = comN a b := by
  obtain ⟨_, h2, h3⟩ := com_spec a b
  exact comN_eq (com_le_right a b) (fun j hj => by rw [eqEnd_symm]; exact h2 j hj) (by rw [eqEnd_symm]; exact h3)

theorem comF_symm (a b : List ByteArray) : comF b a = comF a b := by
  have h1 := (com_spec a b).1
  have h2 := com_le_right a b
  have h := (com_spec a b).2.1
  unfold comF
  rw [comN_symm]
  generalize comN a b = k at *
  refine same_at (by simp; omega) (fun i hi => ?_)
  simp only [List.length_drop] at hi
  rw [getD_drop, getD_drop]
  have := h (k - 1 - i) (by omega)
  simp only [eqEnd, Bool.and_eq_true, decide_eq_true_eq] at this
  obtain ⟨_, h3⟩ := this
  rw [show b.length - k + i = b.length - 1 - (k - 1 - i) by omega, show a.length - k + i = a.length - 1 - (k - 1 - i) by omega]
  exact h3.symm

theorem comF_self (a : List ByteArray) : comF a a = a := by
  have : comN a a = a.length := comN_eq (Nat.le_refl _) (fun j hj => by simp [eqEnd, hj]) (by simp [eqEnd])
  unfold comF
  rw [this, Nat.sub_self, List.drop_zero]

/-- Two routes that part in their first sites share what follows. -/
theorem comF_parts {x y : ByteArray} {r : List ByteArray} (h : x ≠ y) : comF (x :: r) (y :: r) = r := by
  have hk : comN (x :: r) (y :: r) = r.length := by
    refine comN_eq (by simp) (fun j hj => ?_) ?_
    · simp only [eqEnd, Bool.and_eq_true, decide_eq_true_eq, List.length_cons]
      refine ⟨⟨by omega, by omega⟩, ?_⟩
      obtain ⟨t, ht⟩ : ∃ t, r.length + 1 - 1 - j = t + 1 := ⟨r.length - 1 - j, by omega⟩
      rw [ht]; rfl
    · have e : r.length + 1 - 1 - r.length = 0 := by omega
      simp only [eqEnd, List.length_cons, e]
      simp [h]
  unfold comF
  rw [hk]
  simp

theorem Same_refl (A B : Option Addr) (ca cb : Nat) (l : List ByteArray) (w : World) (hl : ReadsS w A l) (hm : ReadsS w B l) (hn : l.length ≤ 1000000) :
    Calls Tryd.prog 13 #[.slice A l.length ca, .slice B l.length cb] w fun e w' => e = .returned (.bool true) ∧ Below w.heap.size w w' := by
  have h := Same_any A B ca cb l l w hl hm hn
  rw [decide_eq_true (rfl : l = l)] at h
  exact h

end Go.Proofs.YthkmjelibdgbcaaDoor
