/- Base64: Unwrap, by a walk through its text. -/
import Derived.Test.YtpooaondhpfkmaaDoorLines
namespace Go.Proofs.YtpooaondhpfkmaaDoor
open Go.RowKit

theorem cell_lt {w : World} {b o : Nat} {v : Value} (h : w.cell? ⟨b, o, none⟩ = some v) : b < w.heap.size := by
  rcases Nat.lt_or_ge b w.heap.size with h1 | h1
  · exact h1
  · simp [World.cell?, Array.getElem?_eq_none h1] at h

def UnwPost (w : World) (R : ByteArray × Nat × Nat) (e : Ending) (w' : World) : Prop :=
  e = .returned (.tuple #[.string R.1, .int .i64 (R.2.1 : Nat), .int .i64 (R.2.2 : Nat)]) ∧ Below w.heap.size w w'

theorem unw_of {w w' : World} {R : ByteArray × Nat × Nat} {o : ByteArray} {a n : Nat} (h : R = (o, a, n)) (hB : Below w.heap.size w w') : UnwPost w R (.returned (.tuple #[.string o, .int .i64 a, .int .i64 n])) w' := by
  rw [h]; exact ⟨rfl, hB⟩

set_option maxHeartbeats 8000000 in
theorem Unwrap_any (s : ByteArray) (m : Int) (w : World) (hs : s.size ≤ 600) (hm : w.cell? ⟨0, 0, none⟩ = some (.int .i64 m)) :
    Calls Tryd.prog 5 #[.string s] w (UnwPost w (unwF s)) := by
  have hdz : decide ((349528 : Int) < (s.size : Int)) = false := decide_eq_false (by omega)
  have hsz : sizeF 131072 = 174764 := by decide
  have HM := Lib.hid hm
  clear hm
  by_cases h0 : s.size = 0
  · have E : Hid (unwF s = (ByteArray.empty, 0, 0)) := Lib.hid (by rw [unwF, if_pos h0])
    obtain rfl : s = ByteArray.empty := ByteArray.ext (Array.eq_empty_of_size_eq_zero h0)
    clear h0
    go_enter Tryd.func5, Tryd.ntmps5
    go_wp2_with fail
    refine (size_any _ _).mono ?_
    rintro e w1 ⟨rfl, rfl⟩
    go_wp2_with fail
    go_ret3
    exact unw_of E.out (Below.refl _ _)
  · have hemp : s.toList.isEmpty = false := by rw [isEmpty_dec, decide_eq_false h0]
    have hb1 : s.size - 1 < s.size := by omega
    have hlast := chars_get s (s.size - 1) hb1
    by_cases h10 : (chars s).getD (s.size - 1) 0 = 10
    · obtain ⟨L, hL⟩ : ∃ L, L = lines (s.extract 0 (s.size - 1)) := ⟨_, rfl⟩
      have E : Hid (unwF s = unwGo (widthF L) ByteArray.empty 0 L) := Lib.hid (by rw [unwF, if_neg h0, if_neg (by simpa using h10), ← hL])
      have c10 : (((chars s).getD (s.size - 1) 0 : Int) != 10) = false := by rw [h10]; rfl
      have hss : (s.extract 0 (s.size - 1)).size = s.size - 1 := by rw [ByteArray.size_extract]; omega
      have hll : L.length ≤ 602 := by have := lines_le (s.extract 0 (s.size - 1)); rw [hL]; omega
      have hcat : (catF L).size ≤ 600 := by have := cat_lines _ (s.extract 0 (s.size - 1)) (Nat.le_refl _); rw [hL]; omega
      have HS := Tryd.strings_Split (s.extract 0 (s.size - 1)) nl m w (by omega) HM.out (by decide)
      have hnm : Lib.splitB nl 0 (Lib.countB (s.extract 0 (s.size - 1)) nl) (s.extract 0 (s.size - 1)) = L := hL.symm
      have hln : Lib.countB (s.extract 0 (s.size - 1)) nl + 1 = L.length := by rw [hL, lines_length]
      have hl0 : 0 < L.length := by omega
      rw [hnm, hln] at HS
      have HS := Lib.hid HS
      generalize (chars s).getD (s.size - 1) 0 = c at *
      have HPT : Hid ((s.extract 0 (s.size - 1)).size = s.size - 1) := Lib.hid hss
      have hi1 : ((s.size : Int) - 1) = ((s.size - 1 : Nat) : Int) := by omega
      clear h0 h10 hL hnm hln hss
      rw [E.out]
      go_enter Tryd.func5, Tryd.ntmps5
      go_wp2_with fail
      refine (size_any _ _).mono ?_
      rintro e w1 ⟨rfl, rfl⟩
      go_wp2_with fail
      refine HS.out.mono ?_
      rintro e w1 ⟨rfl, rfl⟩
      have HR := Lib.hid (reads_names w L)
      have B1 : Below w.heap.size w (w.alloc (.cells (L.map Value.string).toArray 9)) := (Below.refl _ _).alloc (Nat.le_refl _) _
      generalize w.alloc (.cells (L.map Value.string).toArray 9) = w1 at *
      obtain ⟨_, _, eA, hb0, hc0⟩ := HR.out.at hl0
      simp only [Option.some.injEq, Addr.mk.injEq] at eA
      obtain ⟨rfl, rfl, _⟩ := eA
      rw [Nat.add_zero] at hc0
      have hW : Hid (widthF L = (L.getD 0 ByteArray.empty).size) := Lib.hid rfl
      have HC0 := Lib.hid hc0
      have HB1 := Lib.hid B1
      generalize L.getD 0 ByteArray.empty = z at *
      have EW : Hid (unwGo (widthF L) ByteArray.empty 0 L = unwGo z.size ByteArray.empty 0 L) := Lib.hid (by rw [hW.out])
      clear hc0 hi1 hdz hlast hb1 B1 hemp
      go_wp2_with fail
      go_loopw [6, 34] (fun va vi wr => ∃ k a : Nat, k ≤ L.length ∧ a ≤ 999 * k ∧ va = .int .i64 a ∧ vi = .int .i64 k ∧ Hid (unwGo (widthF L) ByteArray.empty 0 L = unwGo z.size (catF (L.take k)) a (L.drop k)) ∧ wr = w1) (fun _ vi _ => (L.length - intOf vi).toNat)
      case atStart => exact ⟨0, 0, by omega, by omega, rfl, rfl, EW, rfl⟩
      case round =>
        obtain ⟨k, a, hk, ha, rfl, rfl, HE, rfl⟩ := hrel
        have hc0 := HC0.out
        by_cases hlt : k < L.length
        · obtain ⟨_, _, eA, hbk, hck⟩ := HR.out.at hlt
          simp only [Option.some.injEq, Addr.mk.injEq] at eA
          obtain ⟨rfl, rfl, _⟩ := eA
          rw [Nat.zero_add] at hck
          have hat := unwGo_at (W := z.size) hlt (catF (L.take k)) a
          have hnx := catF_next hlt
          have hemp := isEmpty_dec (L.getD k ByteArray.empty)
          generalize L.getD k ByteArray.empty = x at *
          have HAT := Lib.hid hat
          have HNX := Lib.hid hnx
          have i0 : (0 : Int) < (L.length : Int) := by omega
          clear hat hnx
          by_cases hE : x.size = 0 <;> by_cases hF : 998 < x.size <;> by_cases hG : z.size < x.size <;> by_cases hP : x.size < z.size <;> by_cases hQ : (k : Int) < (L.length : Int) - 1
          all_goals first
            | (exfalso; omega)
            | (have hM : badL z.size x.size (decide (L.length ≤ k + 1)) = true := by
                 simp only [badL, Bool.or_eq_true, Bool.and_eq_true, decide_eq_true_eq, Bool.not_eq_true', decide_eq_false_iff_not]
                 omega
               have EE : Hid (unwGo (widthF L) ByteArray.empty 0 L = (ByteArray.empty, a, 3)) := Lib.hid (by rw [HE.out, HAT.out, if_pos hM])
               first
                 | (rw [decide_eq_true hE] at hemp)
                 | (rw [decide_eq_false hE] at hemp)
               have HX := Lib.hid hE
               clear hM hE
               go_wp2_with fail
               all_goals go_ret3
               all_goals exact unw_of EE.out HB1.out)
            | (have hM : badL z.size x.size (decide (L.length ≤ k + 1)) = false := by
                 rw [Bool.eq_false_iff]
                 simp only [badL, ne_eq, Bool.or_eq_true, Bool.and_eq_true, decide_eq_true_eq, Bool.not_eq_true', decide_eq_false_iff_not]
                 omega
               have EE : Hid (unwGo (widthF L) ByteArray.empty 0 L = unwGo z.size (catF (L.take (k + 1))) (a + x.size + 1) (L.drop (k + 1))) := Lib.hid (by rw [HE.out, HAT.out, if_neg (by rw [hM]; simp), HNX.out])
               rw [decide_eq_false hE] at hemp
               have HX := Lib.hid hE
               clear hM hE
               go_wp2_with fail
               go_roundw
               case rel => exact ⟨k + 1, a + x.size + 1, by omega, by omega, by go_num, by simp, EE, trivial⟩
               case measure => simp [intOf]; omega)
        · obtain rfl : k = L.length := by omega
          clear hk hlt
          have EE : Hid (unwGo (widthF L) ByteArray.empty 0 L = (catF L, 0, 0)) := Lib.hid (by rw [HE.out, List.drop_length, List.take_length]; rfl)
          have HJ : Calls Tryd.prog 11 #[.slice (some ⟨w.heap.size, 0, none⟩) L.length L.length, .string ⟨#[]⟩] wr fun e w' => e = .returned (.string (catF L)) ∧ Below wr.heap.size wr w' :=
            Tryd.strings_Join w.heap.size 0 L.length L ⟨#[]⟩ wr (fun j x hx => by
              have hj : j < L.length := by
                rcases Nat.lt_or_ge j L.length with h | h
                · exact h
                · rw [List.getElem?_eq_none h] at hx; cases hx
              obtain ⟨_, _, eA, _, hcj⟩ := HR.out.at hj
              simp only [Option.some.injEq, Addr.mk.injEq] at eA
              obtain ⟨rfl, rfl, _⟩ := eA
              rw [hcj, List.getD_eq_getElem?_getD, hx]; rfl) hb0 (by omega) (Nat.le_refl _) (by
              have e : (Lib.join (L.map (·.data.toList)) []).length = (catF L).size := by simp [catF, dl, ByteArray.size]
              show (Lib.join (L.map (·.data.toList)) []).length ≤ _
              rw [e]; omega)
          have HJ' := Lib.hid HJ
          clear HJ
          generalize catF L = o at *
          have d1 : decide ((174764 : Int) < (o.size : Int)) = false := decide_eq_false (by omega)
          go_wp2_with fail
          refine HJ'.out.mono ?_
          rintro e w2 ⟨rfl, b2⟩
          have B2 := Lib.hid (HB1.out.trans (b2.mono HB1.out.size))
          clear b2
          go_wp2_with fail
          refine (size_any _ _).mono ?_
          rintro e w3 ⟨rfl, rfl⟩
          go_wp2_with fail
          go_ret3
          exact unw_of EE.out B2.out
    · have E : Hid (unwF s = (ByteArray.empty, s.size, 4)) := Lib.hid (by rw [unwF, if_neg h0, if_pos h10])
      have c10 : (((chars s).getD (s.size - 1) 0 : Int) != 10) = true := by simp only [bne_iff_ne, ne_eq]; omega
      generalize (chars s).getD (s.size - 1) 0 = c at *
      clear h0 h10
      go_enter Tryd.func5, Tryd.ntmps5
      go_wp2_with fail
      refine (size_any _ _).mono ?_
      rintro e w1 ⟨rfl, rfl⟩
      go_wp2_with fail
      go_ret3
      exact unw_of E.out (Below.refl _ _)

end Go.Proofs.YtpooaondhpfkmaaDoor
