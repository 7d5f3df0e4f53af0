/- Route: the law RouteCommon, by a walk through its text. -/
import Derived.Test.YthkmjelibdgbcaaDoorPlain3
namespace Go.Proofs.YthkmjelibdgbcaaDoor
open Go.RowKit

theorem comF_len (a b : List ByteArray) : (comF a b).length ≤ a.length := by simp [comF]

set_option maxHeartbeats 1000000 in
theorem common_walk (A B : Option Addr) (ca cb : Nat) (l k : List ByteArray) (m : Int) (w : World) (hm : w.cell? ⟨0, 0, none⟩ = some (.int .i64 m)) (hr : ReadsS w A l) (hr2 : ReadsS w B k) :
    Calls Tryd.prog 8 #[.slice A l.length ca, .slice B k.length cb] w fun e w' => e = .returned (.bool true) ∧ Below w.heap.size w w' := by
  have HM := Lib.hid hm
  have HR := Lib.hid hr
  have HRB := Lib.hid hr2
  have h0 := Lib.hid (cell_lt hm)
  clear hm hr hr2
  go_enter Tryd.func8, Tryd.ntmps8
  go_wp2_with fail
  refine (cut_any A ca l w HR.out).mono ?_
  rintro e w1 ⟨⟨A1, cap1, rfl, O1⟩, b1⟩
  have hlen := cutF_length l
  generalize cutF l = x at *
  obtain ⟨R1, hc1, hn1⟩ := O1.open_
  have B1 := Lib.hid b1
  have RX1 := Lib.hid R1
  have HCX := Lib.hid hc1
  have HNX := Lib.hid hn1
  have RB1 := Lib.hid (HRB.out.below b1)
  clear O1 b1 R1 hc1 hn1
  go_wp2_with fail
  refine (cut_any B cb k w1 RB1.out).mono ?_
  rintro e w2 ⟨⟨A2, cap2, rfl, O2⟩, b2⟩
  have hlen2 := cutF_length k
  generalize cutF k = y at *
  obtain ⟨R2, hc2, hn2⟩ := O2.open_
  have B2 := Lib.hid (B1.out.trans (b2.mono B1.out.size))
  have RX2 := Lib.hid (RX1.out.below b2)
  have RY2 := Lib.hid R2
  have HCY := Lib.hid hc2
  have HNY := Lib.hid hn2
  clear O2 b2 R2 hc2 hn2
  go_wp2_with fail
  refine (Common_any A1 A2 cap1 cap2 x y w2 RX2.out RY2.out (by omega) (by omega) HCX.out HNX.out).mono ?_
  rintro e w3 ⟨A3, cap3, rfl, O3, b3⟩
  obtain ⟨R3, hc3, hn3⟩ := O3.open_
  have B3 := Lib.hid (B2.out.trans (b3.mono B2.out.size))
  have RX3 := Lib.hid (RX2.out.below b3)
  have RY3 := Lib.hid (RY2.out.below b3)
  have RC3 := Lib.hid R3
  have hlc := comF_len x y
  have HS : Hid (comF y x = comF x y) := Lib.hid (comF_symm x y)
  have HF : Hid (comF x x = x) := Lib.hid (comF_self x)
  clear O3 b3 R3 hc3 hn3
  go_wp2_with fail
  refine (known_any m w3 ((B3.out.cell (p := ⟨0, 0, none⟩) h0.out).trans HM.out)).mono ?_
  rintro e w4 ⟨rfl, b4⟩
  have B4 := Lib.hid (B3.out.trans (b4.mono B3.out.size))
  have RX4 := Lib.hid (RX3.out.below b4)
  have RY4 := Lib.hid (RY3.out.below b4)
  have RC4 := Lib.hid (RC3.out.below b4)
  clear b4
  go_wp2_with fail
  refine (RCommon_any A1 A2 cap1 cap2 x y w4 RX4.out RY4.out (by omega) (by omega) HCX.out HNX.out).mono ?_
  rintro e w5 ⟨A5, cap5, rfl, O5, b5⟩
  obtain ⟨R5, _, _⟩ := O5.open_
  have B5 := Lib.hid (B4.out.trans (b5.mono B4.out.size))
  have RX5 := Lib.hid (RX4.out.below b5)
  have RY5 := Lib.hid (RY4.out.below b5)
  have RC5 := Lib.hid (RC4.out.below b5)
  have RD5 := Lib.hid R5
  clear O5 b5 R5
  go_wp2_with fail
  refine (Same_refl A3 A5 cap3 cap5 (comF x y) w5 RC5.out RD5.out (by omega)).mono ?_
  rintro e w6 ⟨rfl, b6⟩
  have B6 := Lib.hid (B5.out.trans (b6.mono B5.out.size))
  have RX6 := Lib.hid (RX5.out.below b6)
  have RY6 := Lib.hid (RY5.out.below b6)
  have RC6 := Lib.hid (RC5.out.below b6)
  clear b6
  go_wp2_with fail
  have HC := Common_any A2 A1 cap2 cap1 y x w6 RY6.out RX6.out (by omega) (by omega) HCY.out HNY.out
  rw [HS.out] at HC
  refine HC.mono ?_
  clear HC
  rintro e w7 ⟨A7, cap7, rfl, O7, b7⟩
  obtain ⟨R7, _, _⟩ := O7.open_
  have B7 := Lib.hid (B6.out.trans (b7.mono B6.out.size))
  have RX7 := Lib.hid (RX6.out.below b7)
  have RC7 := Lib.hid (RC6.out.below b7)
  have RD7 := Lib.hid R7
  clear O7 b7 R7
  go_wp2_with fail
  refine (Same_refl A7 A3 cap7 cap3 (comF x y) w7 RD7.out RC7.out (by omega)).mono ?_
  rintro e w8 ⟨rfl, b8⟩
  have B8 := Lib.hid (B7.out.trans (b8.mono B7.out.size))
  have RX8 := Lib.hid (RX7.out.below b8)
  clear b8
  go_wp2_with fail
  have HC := Common_any A1 A1 cap1 cap1 x x w8 RX8.out RX8.out (by omega) (by omega) HCX.out HNX.out
  rw [HF.out] at HC
  refine HC.mono ?_
  clear HC
  rintro e w9 ⟨A9, cap9, rfl, O9, b9⟩
  obtain ⟨R9, _, _⟩ := O9.open_
  have B9 := Lib.hid (B8.out.trans (b9.mono B8.out.size))
  have RX9 := Lib.hid (RX8.out.below b9)
  have RD9 := Lib.hid R9
  clear O9 b9 R9
  go_wp2_with fail
  refine (Same_refl A9 A1 cap9 cap1 x w9 RD9.out RX9.out (by omega)).mono ?_
  rintro e w10 ⟨rfl, b10⟩
  have B10 := Lib.hid (B9.out.trans (b10.mono B9.out.size))
  clear b10
  go_wp2_with fail
  go_ret
  exact ⟨rfl, B10.out⟩

end Go.Proofs.YthkmjelibdgbcaaDoor
