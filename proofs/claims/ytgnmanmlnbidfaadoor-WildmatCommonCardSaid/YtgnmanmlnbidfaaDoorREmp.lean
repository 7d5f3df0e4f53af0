/- Wildmat: the reference's Empty, by a walk through its text. -/
import Derived.Test.YtgnmanmlnbidfaaDoorRef
namespace Go.Proofs.YtgnmanmlnbidfaaDoor
open Go.RowKit

def foundF (e : El) (c : Nat) : Bool := e.isStar || (List.range c).any e.bit

theorem found_zero (e : El) : foundF e 0 = e.isStar := by simp [foundF]
theorem found_next (e : El) (c : Nat) : foundF e (c + 1) = (foundF e c || e.bit c) := by
  simp [foundF, List.range_succ, List.any_append, Bool.or_assoc]
theorem found_all (e : El) : foundF e 128 = (List.range 128).any e.has := by
  cases e with
  | star => decide +kernel
  | one d => rfl
  | cls s i => rfl

theorem empty_next (L : List El) {k : Nat} (hk : k < L.length) : emptyF (L.drop k) = (!foundF (elAt L k) 128 || emptyF (L.drop (k + 1))) := by
  have e : elAt L k = L[k] := by rw [elAt, List.getD_eq_getElem?_getD, List.getElem?_eq_getElem hk]; rfl
  rw [List.drop_eq_getElem_cons hk, emptyF, List.any_cons, found_all, e]
  rfl

set_option maxRecDepth 100000 in
set_option maxHeartbeats 4000000 in
theorem REmpty_any (txt : ByteArray) (A : Option Addr) (L : List El) (cap : Nat) (w : World) (h : IsRef w w.heap.size A L) (hl : L.length ≤ 80) :
    Calls Tryd.prog 18 #[.agg #[.string txt, .slice A L.length cap]] w fun e w' => e = .returned (.bool (emptyF L)) ∧ Below w.heap.size w w' := by
  obtain ⟨W, hW⟩ : ∃ W, w.alloc (.cells #[.string txt, .slice A L.length cap] 29) = W := ⟨_, rfl⟩
  have HB : Hid (Below w.heap.size w W) := Lib.hid (by rw [← hW]; exact (Below.refl _ _).alloc (Nat.le_refl _) _)
  have hx : W.cell? ⟨w.heap.size, 0, none⟩ = some (.string txt) ∧ W.cell? ⟨w.heap.size, 1, none⟩ = some (.slice A L.length cap) := by
    have h := heap_alloc_new w (.cells #[.string txt, .slice A L.length cap] 29)
    rw [hW] at h
    constructor <;> (simp only [World.cell?, h]; rfl)
  obtain ⟨x0, x1⟩ := hx
  have HR := Lib.hid (h.below HB.out)
  clear h
  go_enter Tryd.func18, Tryd.ntmps18
  go_wp2_with fail
  go_loopw [3] (fun vk wr => ∃ k : Nat, k ≤ L.length ∧ vk = .int .i64 k ∧ Hid (emptyF L = emptyF (L.drop k)) ∧ W = wr) (fun vk _ => (L.length - intOf vk).toNat)
  case atStart => exact ⟨0, by omega, rfl, Lib.hid (by rw [List.drop_zero]), rfl⟩
  case round =>
    obtain ⟨k, hk, rfl, HE, rfl⟩ := hrel
    by_cases hlt : k < L.length
    · obtain ⟨b, off, hA, hb, c0, c1⟩ := HR.out.at hlt
      subst hA
      have hkl : (k : Int) < (L.length : Int) := by omega
      have HEN : Hid (emptyF (L.drop k) = (!foundF (elAt L k) 128 || emptyF (L.drop (k + 1)))) := Lib.hid (empty_next L hlt)
      obtain ⟨el, hel⟩ : ∃ el, elAt L k = el := ⟨_, rfl⟩
      rw [hel] at c0 c1 HEN
      have HC := Lib.hid c1
      have hf0 := found_zero el
      rw [← hf0] at c0
      clear hel c1 hf0
      go_wp2_with fail
      go_loopw [4, 5] (fun vf vc wr => ∃ c : Nat, c ≤ 128 ∧ vf = .bool (foundF el c) ∧ vc = .int .i64 c ∧ W = wr) (fun _ vc _ => (128 - intOf vc).toNat)
      case atStart => exact ⟨0, by omega, rfl, rfl, rfl⟩
      case round =>
        obtain ⟨c, hc, rfl, rfl, rfl⟩ := hrel
        by_cases hc1 : c < 128
        · have hci : (c : Int) < 128 := by omega
          have cc := HC.out c hc1
          have HN := Lib.hid (found_next el c)
          cases hq : foundF el c with
          | true =>
            have HQ := Lib.hid hq
            clear hq
            go_wp2_with fail
            go_roundw
            case measure => simp [intOf]; omega
            case rel => exact ⟨c + 1, by omega, by rw [HN.out, HQ.out]; rfl, by go_num, trivial⟩
          | false =>
            have HQ := Lib.hid hq
            clear hq
            go_wp2_with fail
            go_roundw
            case measure => simp [intOf]; omega
            case rel => exact ⟨c + 1, by omega, by rw [HN.out, HQ.out]; rfl, by go_num, trivial⟩
        · obtain rfl : c = 128 := by omega
          cases hq : foundF el 128 with
          | true =>
            have HE2 : Hid (emptyF L = emptyF (L.drop (k + 1))) := Lib.hid (by rw [HE.out, HEN.out, hq]; rfl)
            clear hq
            go_wp2_with fail
            go_roundw
            case measure => simp [intOf]; omega
            case rel => exact ⟨k + 1, by omega, by go_num, HE2, trivial⟩
          | false =>
            have HE2 : Hid (emptyF L = true) := Lib.hid (by rw [HE.out, HEN.out, hq]; rfl)
            clear hq
            go_wp2_with fail
            go_ret
            exact ⟨by rw [HE2.out]; rfl, HB.out⟩
    · obtain rfl : k = L.length := by omega
      have HE2 : Hid (emptyF L = false) := Lib.hid (by rw [HE.out, List.drop_length]; rfl)
      clear hlt hk
      go_wp2_with fail
      go_ret
      exact ⟨by rw [HE2.out]; rfl, HB.out⟩

end Go.Proofs.YtgnmanmlnbidfaaDoor
