/- Wildmat: an element of the reference's as it is filled, in memory. -/
import Derived.Test.YtgnmanmlnbidfaaDoorRef
namespace Go.Proofs.YtgnmanmlnbidfaaDoor
open Go.RowKit

/-- An element's block: Star, and the characters noted so far. -/
def eB (st : Bool) (f : Nat → Bool) : Obj := .cells (Value.bool st :: (List.range 128).map fun c => .bool (f c)).toArray 70 (0, 0)

theorem eB_star {w : World} {b : Nat} {st : Bool} {f : Nat → Bool} (h : w.heap[b]? = some (eB st f)) : w.cell? ⟨b, 0, none⟩ = some (.bool st) ∧ w.frozen? ⟨b, 0, none⟩ = false := by
  constructor
  · simp only [World.cell?, h, eB]; rfl
  · simp [World.frozen?, h, eB]

theorem eB_bit {w : World} {b : Nat} {st : Bool} {f : Nat → Bool} (h : w.heap[b]? = some (eB st f)) {c : Nat} (hc : c < 128) : w.cell? ⟨b, 1 + c, none⟩ = some (.bool (f c)) ∧ w.frozen? ⟨b, 1 + c, none⟩ = false := by
  constructor
  · simp only [World.cell?, h, eB]
    rw [Nat.add_comm]
    simp [hc]
  · simp [World.frozen?, h, eB]

theorem eB_set {w : World} {b : Nat} {st : Bool} {f : Nat → Bool} (h : w.heap[b]? = some (eB st f)) {c : Nat} (hc : c < 128) (v : Bool) : (w.setCell ⟨b, 1 + c, none⟩ (.bool v)).heap[b]? = some (eB st fun x => if x = c then v else f x) := by
  have hlt := lt_of_block h
  have h' : w.heap[b] = eB st f := by simpa [Array.getElem?_eq_getElem hlt] using h
  rw [show (⟨b, 1 + c, none⟩ : Addr) = ⟨b, c + 1, none⟩ by rw [Nat.add_comm]]
  show (w.heap.modify b _)[b]? = _
  rw [Array.getElem?_eq_getElem (by simpa using hlt), Array.getElem_modify_self, h']
  simp only [eB, Option.some.injEq, Obj.cells.injEq, and_true]
  apply Array.ext'
  apply List.ext_getElem
  · simp
  · intro i h1 h2
    cases i with
    | zero => simp
    | succ i =>
      simp [List.getElem_set]
      by_cases e : c = i
      · subst e; simp
      · have e' : ¬ i = c := fun x => e x.symm
        simp [e, e']

theorem zero70 : (.cells Tryd.zeroCells70 70 : Obj) = eB false fun _ => false := by kernel_rfl

theorem eB_new (w : World) : (w.alloc (.cells Tryd.zeroCells70 70)).heap[w.heap.size]? = some (eB false fun _ => false) := by
  rw [heap_alloc_new, zero70]

/-- The cells of an element that has been filled. -/
theorem eB_cells {e : El} {st : Bool} {f : Nat → Bool} (h1 : e.isStar = st) (h2 : ∀ c, c < 128 → e.bit c = f c) : Value.bool st :: (List.range 128).map (fun c => Value.bool (f c)) = eCells e := by
  rw [eCells, h1]
  congr 1
  apply List.map_congr_left
  intro c hc
  rw [h2 c (by simpa using hc)]

end Go.Proofs.YtgnmanmlnbidfaaDoor
