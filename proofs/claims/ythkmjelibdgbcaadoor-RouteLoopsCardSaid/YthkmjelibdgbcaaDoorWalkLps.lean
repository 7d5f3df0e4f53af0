/- Route: the law RouteLoops, by a walk through its text. -/
import Derived.Test.YthkmjelibdgbcaaDoorPlain2
namespace Go.Proofs.YthkmjelibdgbcaaDoor
open Go.RowKit

set_option maxHeartbeats 1000000 in
theorem loops_walk (A : Option Addr) (ca : Nat) (l : List ByteArray) (x : ByteArray) (m : Int) (w : World) (hm : w.cell? ⟨0, 0, none⟩ = some (.int .i64 m)) (hr : ReadsS w A l) :
    Calls Tryd.prog 7 #[.slice A l.length ca, .string x] w fun e w' => e = .returned (.bool true) ∧ Below w.heap.size w w' := by
  have HM := Lib.hid hm
  have HR := Lib.hid hr
  have h0 := Lib.hid (cell_lt hm)
  clear hm hr
  go_enter Tryd.func7, Tryd.ntmps7
  go_wp2_with fail
  refine (cut_any A ca l w HR.out).mono ?_
  rintro e w1 ⟨⟨A1, cap1, rfl, O1⟩, b1⟩
  have hlen := cutF_length l
  generalize cutF l = r at *
  obtain ⟨R1, hc1, hn1⟩ := O1.open_
  have B1 := Lib.hid b1
  have RR1 := Lib.hid R1
  have HC1 := Lib.hid hc1
  clear O1 b1 R1 hc1 hn1
  go_wp2_with fail
  refine (Loop_any A1 cap1 r w1 RR1.out (by omega) HC1.out).mono ?_
  rintro e w2 ⟨rfl, b2⟩
  have B2 := Lib.hid (B1.out.trans (b2.mono B1.out.size))
  have RR2 := Lib.hid (RR1.out.below b2)
  clear b2
  go_wp2_with fail
  refine (RLoop_any A1 cap1 r w2 RR2.out (by omega) HC1.out).mono ?_
  rintro e w3 ⟨rfl, b3⟩
  have B3 := Lib.hid (B2.out.trans (b3.mono B2.out.size))
  have RR3 := Lib.hid (RR2.out.below b3)
  clear b3
  generalize loopF r = L at *
  obtain ⟨s, is⟩ := L
  go_wp2_with fail
  refine (known_any m w3 ((B3.out.cell (p := ⟨0, 0, none⟩) h0.out).trans HM.out)).mono ?_
  rintro e w4 ⟨rfl, b4⟩
  have B4 := Lib.hid (B3.out.trans (b4.mono B3.out.size))
  have RR4 := Lib.hid (RR3.out.below b4)
  clear b4
  go_wp2_with fail
  refine (Contains_any A1 cap1 r x w4 RR4.out (by omega)).mono ?_
  rintro e w5 ⟨rfl, rfl⟩
  go_wp2_with fail
  refine (Has_any A1 cap1 r x w4 RR4.out (by omega)).mono ?_
  rintro e w5 ⟨rfl, rfl⟩
  generalize hasB r x = hb at *
  go_wp2_with fail
  go_ret
  exact ⟨by simp, B4.out⟩

end Go.Proofs.YthkmjelibdgbcaaDoor
