/- Wildmat: the small functions, and the nil receivers, by walks through their text. -/
import Derived.Test.YtgnmanmlnbidfaaDoorVerd
import Derived.Test.YtgnmanmlnbidfaaDoorPList
import Derived.Test.YtgnmanmlnbidfaaDoorCommon
namespace Go.Proofs.YtgnmanmlnbidfaaDoor
open Go.RowKit

theorem Len_any (lb : Nat) (txt : ByteArray) (its : List (Nat × Nat × List El)) (A : Option Addr) (cap : Nat) (w : World) (hL : IsList w w.heap.size lb txt its A cap) :
    Calls Tryd.prog 25 #[.pointer (some ⟨lb, 0, none⟩)] w fun e w' => e = .returned (.int .i64 (its.length : Nat)) ∧ Below w.heap.size w w' := by
  have h := hL.items
  clear hL
  go_enter Tryd.func25, Tryd.ntmps25
  go_wp2_with fail
  go_ret
  exact ⟨rfl, Below.refl _ _⟩

theorem Len_nil (w : World) : Calls Tryd.prog 25 #[.pointer none] w fun e w' => e = .returned (.int .i64 0) ∧ Below w.heap.size w w' := by
  go_enter Tryd.func25, Tryd.ntmps25
  go_wp2_with fail
  go_ret
  exact ⟨rfl, Below.refl _ _⟩

theorem PString_nil (w : World) : Calls Tryd.prog 29 #[.pointer none] w fun e w' => e = .returned (.string ⟨#[]⟩) ∧ Below w.heap.size w w' := by
  go_enter Tryd.func29, Tryd.ntmps29
  go_wp2_with fail
  go_ret
  exact ⟨rfl, Below.refl _ _⟩

theorem LString_nil (w : World) : Calls Tryd.prog 30 #[.pointer none] w fun e w' => e = .returned (.string ⟨#[]⟩) ∧ Below w.heap.size w w' := by
  go_enter Tryd.func30, Tryd.ntmps30
  go_wp2_with fail
  go_ret
  exact ⟨rfl, Below.refl _ _⟩

theorem Match_nil (s : ByteArray) (w : World) : Calls Tryd.prog 15 #[.pointer none, .string s] w fun e w' => e = .returned (.bool false) ∧ Below w.heap.size w w' := by
  go_enter Tryd.func15, Tryd.ntmps15
  go_wp2_with fail
  go_ret
  exact ⟨rfl, Below.refl _ _⟩

theorem Empty_nil (w : World) : Calls Tryd.prog 17 #[.pointer none] w fun e w' => e = .returned (.bool true) ∧ Below w.heap.size w w' := by
  go_enter Tryd.func17, Tryd.ntmps17
  go_wp2_with fail
  go_ret
  exact ⟨rfl, Below.refl _ _⟩

theorem Common_nil (q : Option Addr) (w : World) : Calls Tryd.prog 19 #[.pointer none, .pointer q] w fun e w' => e = .returned (.tuple #[.string ⟨#[]⟩, .bool false]) ∧ Below w.heap.size w w' := by
  go_enter Tryd.func19, Tryd.ntmps19
  go_wp2_with fail
  go_ret2
  exact ⟨rfl, Below.refl _ _⟩

theorem Common_nil2 (p : Addr) (w : World) : Calls Tryd.prog 19 #[.pointer (some p), .pointer none] w fun e w' => e = .returned (.tuple #[.string ⟨#[]⟩, .bool false]) ∧ Below w.heap.size w w' := by
  go_enter Tryd.func19, Tryd.ntmps19
  go_wp2_with fail
  go_ret2
  exact ⟨rfl, Below.refl _ _⟩

/-- Does a list select an article of these names? -/
def selGo (f : ByteArray → Nat) : List ByteArray → Bool → Bool
  | [], b => b
  | s :: r, b => if f s = 1 then selGo f r true else if f s = 3 then false else selGo f r b

theorem sel_at {f : ByteArray → Nat} {l : List ByteArray} {k : Nat} (hk : k < l.length) (b : Bool) :
    selGo f (l.drop k) b = if f (l.getD k ByteArray.empty) = 1 then selGo f (l.drop (k + 1)) true else if f (l.getD k ByteArray.empty) = 3 then false else selGo f (l.drop (k + 1)) b := by
  rw [drop_bytes hk, selGo]

/-- What a verdict's contract says. -/
def VerdOf (l : Value) (f : ByteArray → Nat) (w : World) : Prop := ∀ (s : ByteArray) (W : World), s.size ≤ 100 → Below w.heap.size w W → Calls Tryd.prog 23 #[l, .string s] W fun e w' => e = .returned (.int .i64 (f s : Nat)) ∧ Below W.heap.size W w'

set_option maxRecDepth 100000 in
set_option maxHeartbeats 2000000 in
theorem Selects_any (l : Value) (f : ByteArray → Nat) (names : List ByteArray) (A : Option Addr) (cap : Nat) (w : World) (hV : VerdOf l f w) (hR : ReadsV w w.heap.size A (names.map Value.string)) (hn : names.length ≤ 100000) (hsz : ∀ s ∈ names, s.size ≤ 100) :
    Calls Tryd.prog 27 #[l, .slice A names.length cap] w fun e w' => e = .returned (.bool (selGo f names false)) ∧ Below w.heap.size w w' := by
  have HV := Lib.hid hV
  have HR := Lib.hid hR
  have HZ := Lib.hid hsz
  clear hV hR hsz
  go_enter Tryd.func27, Tryd.ntmps27
  go_wp2_with fail
  go_loopw [5, 10] (fun vb vk wr => ∃ (k : Nat) (b : Bool), k ≤ names.length ∧ vb = .bool b ∧ vk = .int .i64 k ∧ Hid (selGo f names false = selGo f (names.drop k) b) ∧ Hid (Below w.heap.size w wr)) (fun _ vk _ => (names.length - intOf vk).toNat)
  case atStart => exact ⟨0, false, by omega, rfl, rfl, Lib.hid (by rw [List.drop_zero]), Lib.hid (Below.refl _ _)⟩
  case round =>
    obtain ⟨k, b, hk, rfl, rfl, HE, HB⟩ := hrel
    by_cases hlt : k < names.length
    · obtain ⟨bb, off, hA, hbb, c0⟩ := (HR.out.below HB.out).at (k := k) (by rw [List.length_map]; exact hlt)
      subst hA
      have hget : (names.map Value.string).getD k undef = .string (names.getD k ByteArray.empty) := by
        rw [List.getD_eq_getElem?_getD, List.getD_eq_getElem?_getD, List.getElem?_map, List.getElem?_eq_getElem hlt]; rfl
      rw [hget] at c0
      have hs100 := HZ.out (names.getD k ByteArray.empty) (by rw [List.getD_eq_getElem?_getD, List.getElem?_eq_getElem hlt]; exact List.getElem_mem hlt)
      have hst := sel_at (f := f) hlt b
      have HC := HV.out (names.getD k ByteArray.empty) wr hs100 HB.out
      have hkl : (k : Int) < (names.length : Int) := by omega
      generalize names.getD k ByteArray.empty = x at *
      clear hget
      obtain ⟨v, hv⟩ : ∃ v, f x = v := ⟨_, rfl⟩
      rw [hv] at hst HC
      have HST := Lib.hid hst
      have HCC := Lib.hid HC
      clear hst HC hv
      by_cases h1 : v = 1
      · have t1 : ((v : Int) == 1) = true := by rw [h1]; rfl
        have HN : Hid (selGo f names false = selGo f (names.drop (k + 1)) true) := Lib.hid (by rw [HE.out, HST.out, if_pos h1])
        clear h1
        go_wp2_with fail
        refine HCC.out.mono ?_
        rintro e w2 ⟨rfl, b2⟩
        have HB2 := Lib.hid (HB.out.trans (b2.mono HB.out.size))
        clear b2
        go_wp2_with fail
        go_roundw
        case measure => simp [intOf]; omega
        case rel => exact ⟨k + 1, true, by omega, rfl, by go_num, HN, HB2⟩
      · have t1 : ((v : Int) == 1) = false := by simp only [beq_eq_false_iff_ne, ne_eq]; omega
        by_cases h3 : v = 3
        · have t3 : ((v : Int) == 3) = true := by rw [h3]; rfl
          have HN : Hid (selGo f names false = false) := Lib.hid (by rw [HE.out, HST.out, if_neg h1, if_pos h3])
          clear h1 h3
          go_wp2_with fail
          refine HCC.out.mono ?_
          rintro e w2 ⟨rfl, b2⟩
          have HB2 := Lib.hid (HB.out.trans (b2.mono HB.out.size))
          clear b2
          go_wp2_with fail
          go_ret
          exact ⟨by rw [HN.out]; rfl, HB2.out⟩
        · have t3 : ((v : Int) == 3) = false := by simp only [beq_eq_false_iff_ne, ne_eq]; omega
          have HN : Hid (selGo f names false = selGo f (names.drop (k + 1)) b) := Lib.hid (by rw [HE.out, HST.out, if_neg h1, if_neg h3])
          clear h1 h3
          go_wp2_with fail
          refine HCC.out.mono ?_
          rintro e w2 ⟨rfl, b2⟩
          have HB2 := Lib.hid (HB.out.trans (b2.mono HB.out.size))
          clear b2
          go_wp2_with fail
          go_roundw
          case measure => simp [intOf]; omega
          case rel => exact ⟨k + 1, b, by omega, rfl, by go_num, HN, HB2⟩
    · obtain rfl : k = names.length := by omega
      have HN : Hid (selGo f names false = b) := Lib.hid (by rw [HE.out, List.drop_length]; rfl)
      clear hlt hk
      go_wp2_with fail
      go_ret
      exact ⟨by rw [HN.out]; rfl, HB.out⟩

end Go.Proofs.YtgnmanmlnbidfaaDoor
