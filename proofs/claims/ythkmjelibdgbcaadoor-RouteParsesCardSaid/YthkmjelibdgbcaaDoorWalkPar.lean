/- Route: the law RouteParses, by a walk through its text. -/
import Derived.Test.YthkmjelibdgbcaaDoorPlain
namespace Go.Proofs.YthkmjelibdgbcaaDoor
open Go.RowKit

set_option maxHeartbeats 1000000 in
theorem parses_walk (s : ByteArray) (m : Int) (w : World) (hm : w.cell? ⟨0, 0, none⟩ = some (.int .i64 m)) :
    Calls Tryd.prog 3 #[.string s] w fun e w' => e = .returned (.bool true) ∧ Below w.heap.size w w' := by
  have HM := Lib.hid hm
  have h0 := Lib.hid (cell_lt hm)
  obtain ⟨n, hn⟩ : ∃ n : Nat, min (s.size : Int) 2000 = (n : Int) := ⟨min s.size 2000, by omega⟩
  have hnl : n ≤ s.size := by omega
  have hxs : (s.extract 0 n).size ≤ 2000 := by rw [ByteArray.size_extract]; omega
  clear hm
  go_enter Tryd.func3, Tryd.ntmps3
  go_wp2_with fail
  generalize s.extract 0 n = x at *
  have PT := fun h => parse_text (s := x) h
  have PL := Lib.hid (parse_len x)
  refine (Parse_any x m w (by omega) HM.out).mono ?_
  rintro e w1 ⟨A1, cap1, rfl, O1, b1⟩
  go_wp2_with fail
  refine (RParse_any x w1 (by omega)).mono ?_
  rintro e w2 ⟨A2, cap2, rfl, O2, b2⟩
  generalize parseF x = P at *
  obtain ⟨r, at_, er⟩ := P
  simp only at O1 O2 PT PL
  have B2 := Lib.hid (b1.trans (b2.mono b1.size))
  obtain ⟨A1', c1', e1, R1, hc1, _, _⟩ := O1.reads
  obtain ⟨rfl, rfl⟩ : A1 = A1' ∧ cap1 = c1' := by cases e1; exact ⟨rfl, rfl⟩
  obtain ⟨A2', c2', e2, R2, hc2, _, _⟩ := O2.reads
  obtain ⟨rfl, rfl⟩ : A2 = A2' ∧ cap2 = c2' := by cases e2; exact ⟨rfl, rfl⟩
  have RR1 := Lib.hid (R1.below b2)
  have RR2 := Lib.hid R2
  have HC1 := Lib.hid hc1
  have HPT := Lib.hid PT
  clear e1 e2 R1 R2 O1 O2 b1 b2 hc1 hc2 PT
  go_wp2_with fail
  refine (known_any m w2 ((B2.out.cell (p := ⟨0, 0, none⟩) h0.out).trans HM.out)).mono ?_
  rintro e w3 ⟨rfl, b3⟩
  have B3 := Lib.hid (B2.out.trans (b3.mono B2.out.size))
  have RR3 := Lib.hid (RR1.out.below b3)
  have RR4 := Lib.hid (RR2.out.below b3)
  clear b3
  go_wp2_with fail
  refine (Same_any A1 A2 cap1 cap2 r r w3 RR3.out RR4.out (by have := PL.out; omega)).mono ?_
  rintro e w4 ⟨rfl, b4⟩
  have B4 := Lib.hid (B3.out.trans (b4.mono B3.out.size))
  have RR5 := Lib.hid (RR3.out.below b4)
  clear b4
  have hd : decide (r = r) = true := decide_eq_true rfl
  rw [hd]
  by_cases he : er = 0
  · have b0 := nz_no he
    have HT := Lib.hid (HPT.out he)
    clear he
    go_wp2_with fail
    refine (String_any A1 cap1 r w4 RR5.out (by have := PL.out; omega) HC1.out (by rw [HT.out]; omega)).mono ?_
    rintro e w5 ⟨rfl, b5⟩
    rw [HT.out]
    have B5 := Lib.hid (B4.out.trans (b5.mono B4.out.size))
    go_wp2_with fail
    go_ret
    exact ⟨rfl, B5.out⟩
  · have b0 := nz_yes he
    clear he
    go_wp2_with fail
    go_ret
    exact ⟨rfl, B4.out⟩

end Go.Proofs.YthkmjelibdgbcaaDoor
