/- Route: the law RouteChecks, by a walk through its text. -/
import Derived.Test.YthkmjelibdgbcaaDoorPlain2
namespace Go.Proofs.YthkmjelibdgbcaaDoor
open Go.RowKit

set_option maxHeartbeats 1000000 in
theorem checks_walk (A : Option Addr) (ca : Nat) (l : List ByteArray) (m : Int) (w : World) (hm : w.cell? ⟨0, 0, none⟩ = some (.int .i64 m)) (hr : ReadsS w A l) :
    Calls Tryd.prog 4 #[.slice A l.length ca] w fun e w' => e = .returned (.bool true) ∧ Below w.heap.size w w' := by
  have HM := Lib.hid hm
  have HR := Lib.hid hr
  have h0 := Lib.hid (cell_lt hm)
  clear hm hr
  go_enter Tryd.func4, Tryd.ntmps4
  go_wp2_with fail
  refine (cut_any A ca l w HR.out).mono ?_
  rintro e w1 ⟨⟨A1, cap1, rfl, O1⟩, b1⟩
  have hlen := cutF_length l
  have htx := cut_text l
  have hpv := fun h => parse_valid (l := cutF l) h
  generalize cutF l = r at *
  obtain ⟨R1, hc1, hn1⟩ := O1.open_
  have B1 := Lib.hid b1
  have RR1 := Lib.hid R1
  have HC1 := Lib.hid hc1
  have HPV := Lib.hid hpv
  clear O1 b1 R1 hc1 hn1 hpv
  go_wp2_with fail
  refine (String_any A1 cap1 r w1 RR1.out (by omega) HC1.out (by omega)).mono ?_
  rintro e w2 ⟨rfl, b2⟩
  have B2 := Lib.hid (B1.out.trans (b2.mono B1.out.size))
  have RR2 := Lib.hid (RR1.out.below b2)
  clear b2
  go_wp2_with fail
  refine (Check_any A1 cap1 r w2 RR2.out (by omega)).mono ?_
  rintro e w3 ⟨rfl, rfl⟩
  go_wp2_with fail
  refine (RCheck_any A1 cap1 r w2 RR2.out (by omega)).mono ?_
  rintro e w3 ⟨rfl, rfl⟩
  obtain ⟨ck, hck⟩ : ∃ ck, checkF r = ck := ⟨_, rfl⟩
  have HCK := Lib.hid hck
  rw [hck]
  clear hck
  have b0 : ((ck : Int) != (ck : Int)) = false := by simp
  go_wp2_with fail
  refine (Text_any A1 cap1 r w2 RR2.out (by omega) (by omega)).mono ?_
  rintro e w3 ⟨rfl, rfl⟩
  have hss : ((textF r).toList == (textF r).toList) = true := by simp
  go_wp2_with fail
  refine (Check_any A1 cap1 r w2 RR2.out (by omega)).mono ?_
  rintro e w3 ⟨rfl, rfl⟩
  rw [HCK.out]
  have HM2 := Lib.hid ((B2.out.cell (p := ⟨0, 0, none⟩) h0.out).trans HM.out)
  by_cases he : ck = 0
  · have bz := nz_no he
    have HP := Lib.hid (HPV.out (HCK.out.trans he))
    clear he
    go_wp2_with fail
    refine (Parse_any (textF r) m w2 (by omega) HM2.out).mono ?_
    rintro e w3 ⟨A3, cap3, rfl, O3, b3⟩
    rw [HP.out] at O3 ⊢
    simp only at O3
    have B3 := Lib.hid (B2.out.trans (b3.mono B2.out.size))
    have RR3 := Lib.hid (RR2.out.below b3)
    obtain ⟨R3, _, _⟩ := O3.open_
    have RP3 := Lib.hid R3
    have HM3 := Lib.hid ((B3.out.cell (p := ⟨0, 0, none⟩) h0.out).trans HM.out)
    clear O3 b3 R3
    go_wp2_with fail
    refine (known_any m w3 HM3.out).mono ?_
    rintro e w4 ⟨rfl, b4⟩
    have B4 := Lib.hid (B3.out.trans (b4.mono B3.out.size))
    have RR4 := Lib.hid (RR3.out.below b4)
    have RP4 := Lib.hid (RP3.out.below b4)
    clear b4
    go_wp2_with fail
    refine (Same_any A3 A1 cap3 cap1 r r w4 RP4.out RR4.out (by omega)).mono ?_
    rintro e w5 ⟨rfl, b5⟩
    have B5 := Lib.hid (B4.out.trans (b5.mono B4.out.size))
    have hd : decide (r = r) = true := decide_eq_true rfl
    rw [hd]
    clear hd b5
    go_wp2_with fail
    go_ret
    exact ⟨rfl, B5.out⟩
  · have bz := nz_yes he
    clear he
    go_wp2_with fail
    refine (known_any m w2 HM2.out).mono ?_
    rintro e w3 ⟨rfl, b3⟩
    have B3 := Lib.hid (B2.out.trans (b3.mono B2.out.size))
    clear b3
    go_wp2_with fail
    go_ret
    exact ⟨rfl, B3.out⟩

end Go.Proofs.YthkmjelibdgbcaaDoor
