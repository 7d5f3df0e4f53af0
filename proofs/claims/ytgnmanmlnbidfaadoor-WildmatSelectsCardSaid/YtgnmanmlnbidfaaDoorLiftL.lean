/- Wildmat: a slice of strings among a row's arguments. -/
import Derived.Test.YtgnmanmlnbidfaaDoorFilt
import Derived.Laws.Tables
import Derived.Maps.Own
import Derived.Maps.Views
import Derived.DeepKeys4
import Derived.Maps.Keyed
namespace Go.Proofs.YtgnmanmlnbidfaaDoor
open Go.RowKit Go.Maps


/-- A slice of strings among the arguments. -/
structure IsStrs (w : World) (a : Option Addr) (len cap : Nat) (l : List ByteArray) : Prop where
  hlen : len = l.length
  hcap : l.length ≤ cap
  hnil : a = none → cap = 0
  hread : ReadsV w w.heap.size a (l.map Value.string)
  hmax : cap ≤ maxLen
  hsize : ∀ s ∈ l, s.size ≤ maxLen

theorem is_strs {w : World} {x : Addr} {len cap : Nat} {zs : List ByteArray} (hl : len ≤ cap) (hm : cap ≤ maxLen) (hz : zs.length = cap) (hcell : ∀ i, i < zs.length → w.cell? (x.add i) = some (.string (zs.getD i ByteArray.empty))) (hs : ∀ s ∈ zs, s.size ≤ maxLen) :
    IsStrs w (some x) len cap (zs.take len) := by
  have hlen : (zs.take len).length = len := by simp; omega
  refine ⟨hlen.symm, by omega, (fun e => by cases e), ?_, hm, fun s h => hs s (List.mem_of_mem_take h)⟩
  by_cases h0 : len = 0
  · exact .inl (by rw [h0]; rfl)
  · have h0' := hcell 0 (by omega)
    have hspot := World.cell?_spot h0'
    have hx : x.spot = none := by
      unfold Addr.add at hspot
      split at hspot <;> simp_all
    obtain ⟨b, off, spot⟩ := x
    simp only at hx
    subst hx
    have hadd : ∀ j, (⟨b, off, none⟩ : Addr).add j = ⟨b, off + j, none⟩ := fun j => by unfold Addr.add; split <;> simp_all
    refine .inr ⟨b, off, rfl, ?_, fun i hi => ?_⟩
    · have h1 := h0'
      rw [hadd] at h1
      exact World.block_lt_of_cell? _ _ h1
    · rw [List.length_map, hlen] at hi
      rw [← hadd, hcell i (by omega), List.getD_eq_getElem?_getD, List.getD_eq_getElem?_getD, List.getElem?_map, List.getElem?_take_of_lt hi, List.getElem?_eq_getElem (by omega)]
      rfl

end Go.Proofs.YtgnmanmlnbidfaaDoor
