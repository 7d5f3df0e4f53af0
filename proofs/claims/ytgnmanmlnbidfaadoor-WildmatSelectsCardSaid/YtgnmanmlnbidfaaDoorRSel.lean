/- Wildmat: the reference's Selects, by a walk through its text. -/
import Derived.Test.YtgnmanmlnbidfaaDoorRVer
namespace Go.Proofs.YtgnmanmlnbidfaaDoor
open Go.RowKit

set_option maxRecDepth 100000 in
set_option maxHeartbeats 4000000 in
theorem RSelects_any (A A2 : Option Addr) (its : List RIt) (names : List ByteArray) (cap cap2 : Nat) (w : World) (h : IsRItems w w.heap.size A its) (hR : ReadsV w w.heap.size A2 (names.map Value.string)) (hn : names.length ≤ 100000) (hsz : ∀ s ∈ names, s.size ≤ 100) :
    Calls Tryd.prog 28 #[.slice A its.length cap, .slice A2 names.length cap2] w fun e w' => e = .returned (.bool (selGo (fun s => verdF (its.map RIt.it) (chars s)) names false)) ∧ Below w.heap.size w w' := by
  have HI := Lib.hid h
  have HR := Lib.hid hR
  have HZ := Lib.hid hsz
  obtain ⟨f, hf⟩ : ∃ f : ByteArray → Nat, f = fun s => verdF (its.map RIt.it) (chars s) := ⟨_, rfl⟩
  have HV : Hid (∀ (s : ByteArray) W, s.size ≤ 100 → Below w.heap.size w W → Calls Tryd.prog 24 #[.slice A its.length cap, .string s] W fun e w' => e = .returned (.int .i64 (f s : Nat)) ∧ Below W.heap.size W w') := Lib.hid (fun s W hs hB => by rw [hf]; exact RVerdict_any s A its cap W (HI.out.later hB) hs)
  rw [← hf]
  clear h hR hsz hf HI
  go_enter Tryd.func28, Tryd.ntmps28
  go_wp2_with fail
  go_loopw [5, 6] (fun vb vk wr => ∃ (k : Nat) (b : Bool), k ≤ names.length ∧ vb = .bool b ∧ vk = .int .i64 k ∧ Hid (selGo f names false = selGo f (names.drop k) b) ∧ Hid (Below w.heap.size w wr)) (fun _ vk _ => (names.length - intOf vk).toNat)
  case atStart => exact ⟨0, false, by omega, rfl, rfl, Lib.hid (by rw [List.drop_zero]), Lib.hid (Below.refl _ _)⟩
  case round =>
    obtain ⟨k, b, hk, rfl, rfl, HE, HB⟩ := hrel
    by_cases hlt : k < names.length
    · obtain ⟨bb, off, hA, hbb, c0⟩ := (HR.out.below HB.out).at (k := k) (by rw [List.length_map]; exact hlt)
      subst hA
      have hget : (names.map Value.string).getD k undef = .string (names.getD k ByteArray.empty) := by
        rw [List.getD_eq_getElem?_getD, List.getD_eq_getElem?_getD, List.getElem?_map, List.getElem?_eq_getElem hlt]; rfl
      rw [hget] at c0
      have hs100 := HZ.out (names.getD k ByteArray.empty) (by rw [List.getD_eq_getElem?_getD, List.getElem?_eq_getElem hlt]; exact List.getElem_mem hlt)
      have hst := sel_ref (f := f) hlt b
      have HC := HV.out (names.getD k ByteArray.empty) wr hs100 HB.out
      have hkl : (k : Int) < (names.length : Int) := by omega
      generalize names.getD k ByteArray.empty = x at *
      clear hget
      obtain ⟨v, hv⟩ : ∃ v, f x = v := ⟨_, rfl⟩
      rw [hv] at hst HC
      have HST := Lib.hid hst
      have HCC := Lib.hid HC
      clear hst HC hv
      by_cases h3 : v = 3
      · have t3 : ((v : Int) == 3) = true := by rw [h3]; rfl
        have HN : Hid (selGo f names false = false) := Lib.hid (by rw [HE.out, HST.out, if_pos h3])
        clear h3
        go_wp2_with fail
        refine HCC.out.mono ?_
        rintro e w2 ⟨rfl, b2⟩
        have HB2 := Lib.hid (HB.out.trans (b2.mono HB.out.size))
        clear b2
        go_wp2_with fail
        go_ret
        exact ⟨by rw [HN.out]; rfl, HB2.out⟩
      · have t3 : ((v : Int) == 3) = false := by simp only [beq_eq_false_iff_ne, ne_eq]; omega
        have HN : Hid (selGo f names false = selGo f (names.drop (k + 1)) (b || decide (v = 1))) := Lib.hid (by rw [HE.out, HST.out, if_neg h3])
        obtain ⟨q, hq⟩ : ∃ q, decide (v = 1) = q := ⟨_, rfl⟩
        have t1 : ((v : Int) == 1) = q := by
          rw [← hq, Bool.eq_iff_iff, beq_iff_eq, decide_eq_true_eq]; omega
        rw [hq] at HN
        clear h3 hq
        cases b with
        | true =>
          go_wp2_with fail
          refine HCC.out.mono ?_
          rintro e w2 ⟨rfl, b2⟩
          have HB2 := Lib.hid (HB.out.trans (b2.mono HB.out.size))
          clear b2
          go_wp2_with fail
          go_roundw
          case measure => simp [intOf]; omega
          case rel => exact ⟨k + 1, true, by omega, rfl, by go_num, HN, HB2⟩
        | false =>
          go_wp2_with fail
          refine HCC.out.mono ?_
          rintro e w2 ⟨rfl, b2⟩
          have HB2 := Lib.hid (HB.out.trans (b2.mono HB.out.size))
          clear b2
          go_wp2_with fail
          go_roundw
          case measure => simp [intOf]; omega
          case rel => exact ⟨k + 1, q, by omega, rfl, by go_num, HN, HB2⟩
    · obtain rfl : k = names.length := by omega
      have HN : Hid (selGo f names false = b) := Lib.hid (by rw [HE.out, List.drop_length]; rfl)
      clear hlt hk
      go_wp2_with fail
      go_ret
      exact ⟨by rw [HN.out]; rfl, HB.out⟩

end Go.Proofs.YtgnmanmlnbidfaaDoor
