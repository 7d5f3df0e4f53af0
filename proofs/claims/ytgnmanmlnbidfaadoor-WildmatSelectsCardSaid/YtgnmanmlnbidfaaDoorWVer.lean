/- Wildmat: the law WildmatVerdicts, by a walk through its text. -/
import Derived.Test.YtgnmanmlnbidfaaDoorRPList
import Derived.Test.YtgnmanmlnbidfaaDoorWApp
namespace Go.Proofs.YtgnmanmlnbidfaaDoor
open Go.RowKit

theorem list_both (s : ByteArray) (m : Int) (w : World) (hs : s.size ≤ 1000) (hm : w.cell? ⟨0, 0, none⟩ = some (.int .i64 m)) : Calls Tryd.prog 21 #[.string s] w fun e w' =>
    (∃ (p : Value) (a : Nat), e = .returned (.tuple #[p, .int .i64 a, .int .i64 ((parseF s).2.2 : Nat)]) ∧ (((parseF s).2.2 = 0 ∧ ∃ lb its A cap, p = .pointer (some ⟨lb, 0, none⟩) ∧ its.map itA = (parseF s).1 ∧ IsList w' w'.heap.size lb s its A cap) ∨ ((parseF s).2.2 ≠ 0 ∧ p = .pointer none))) ∧ Below w.heap.size w w' := by
  refine (ParseList_any s m w hs hm).mono ?_
  rintro e w' ⟨⟨p, rfl, hans⟩, hB⟩
  refine ⟨⟨p, _, rfl, ?_⟩, hB⟩
  rcases hans with ⟨h0, lb, its, A, cap, rfl, h1, _, hl⟩ | h
  · exact .inl ⟨h0, lb, its, A, cap, rfl, h1, hl⟩
  · exact .inr h

set_option maxRecDepth 100000 in
set_option maxHeartbeats 4000000 in
theorem ver_walk (s n : ByteArray) (m : Int) (w : World) (hm : w.cell? ⟨0, 0, none⟩ = some (.int .i64 m)) : Calls Tryd.prog 7 #[.string s, .string n] w fun e w' => e = .returned (.bool true) ∧ Below w.heap.size w w' := by
  have HM := Lib.hid hm
  have h00 := Lib.hid (World.block_lt_of_cell? _ _ hm)
  have hts := cut_size s 800
  have hus := cut_size n 100
  have C1 : Hid (∀ w, Calls Tryd.prog 11 #[.string s, .int .i64 800] w fun e w' => e = .returned (.string (s.extract 0 (min s.size 800))) ∧ w = w') := Lib.hid (fun w => cut_any s 800 w)
  have C2 : Hid (∀ w, Calls Tryd.prog 11 #[.string n, .int .i64 100] w fun e w' => e = .returned (.string (n.extract 0 (min n.size 100))) ∧ w = w') := Lib.hid (fun w => cut_any n 100 w)
  generalize s.extract 0 (min s.size 800) = t at *
  generalize n.extract 0 (min n.size 100) = u at *
  clear hm
  obtain ⟨R, hR⟩ : ∃ R, parseF t = R := ⟨_, rfl⟩
  have K1 := list_both t m
  have K2 := RParseList_any t
  rw [hR] at K1 K2
  have K1 := Lib.hid K1
  have K2 := Lib.hid K2
  clear hR
  go_enter Tryd.func7, Tryd.ntmps7
  go_wp2_with fail
  refine (C1.out _).mono ?_
  rintro e w1 ⟨rfl, rfl⟩
  go_wp2_with fail
  refine (C2.out _).mono ?_
  rintro e w1 ⟨rfl, rfl⟩
  clear C1 C2
  go_wp2_with fail
  refine (K1.out _ (by omega) HM.out).mono ?_
  rintro e w1 ⟨⟨p1, a1, rfl, h1⟩, b1⟩
  have H1 := Lib.hid h1
  have B1 := Lib.hid b1
  clear b1 h1
  go_wp2_with fail
  refine (K2.out _ (by omega)).mono ?_
  rintro e w2 ⟨⟨A, cap, its2, rfl, hmap, hrf⟩, b2⟩
  have HRF := Lib.hid hrf
  have HMAP := Lib.hid hmap
  have b2' := Lib.hid b2
  have B2 := Lib.hid (B1.out.trans (b2.mono B1.out.size))
  clear hrf b2 K1 K2 hmap
  by_cases h0 : R.2.2 = 0
  · have e0 : ((R.2.2 : Int) != 0) = false := by rw [h0]; rfl
    have e1 : ((R.2.2 : Int) == 0) = true := by rw [h0]; rfl
    rcases H1.out with ⟨_, lb, its1, A1, cap1, rfl, hm1, hl1⟩ | ⟨hn, _⟩
    · have HL := Lib.hid (hl1.later b2'.out)
      have HM1 := Lib.hid hm1
      clear hl1 H1 b2' hm1
      generalize R.2.2 = r2 at *
      generalize R.2.1 = r1 at *
      generalize R.1 = L at *
      go_wp2_with fail
      refine (known_any m _ (cell_later0 HM.out B2.out h00.out)).mono ?_
      rintro e w3 ⟨rfl, b3⟩
      have B3 := Lib.hid (B2.out.trans (b3.mono B2.out.size))
      have HL3 := Lib.hid (HL.out.later b3)
      have HRF3 := Lib.hid (HRF.out.later b3)
      clear b3 HL HRF
      go_wp2_with fail
      refine (Verdict_any _ _ _ _ _ _ _ HL3.out (by omega)).mono ?_
      rintro e w4 ⟨rfl, b4⟩
      rw [HM1.out]
      have B4 := Lib.hid (B3.out.trans (b4.mono B3.out.size))
      have HRF4 := Lib.hid (HRF3.out.later b4)
      clear b4 HL3 HRF3
      go_wp2_with fail
      refine (RVerdict_any _ _ _ _ _ HRF4.out (by omega)).mono ?_
      rintro e w5 ⟨rfl, b5⟩
      rw [HMAP.out]
      have B5 := Lib.hid (B4.out.trans (b5.mono B4.out.size))
      clear b5 HRF4
      generalize verdF L (chars u) = vv
      go_wp2_with fail
      go_ret
      exact ⟨rfl, B5.out⟩
    · exact absurd h0 hn
  · have e0 : ((R.2.2 : Int) != 0) = true := by rw [bne_iff_ne]; omega
    rcases H1.out with ⟨hn, _⟩ | ⟨_, rfl⟩
    · exact absurd hn h0
    · clear H1 h0
      go_wp2_with fail
      refine (known_any m _ (cell_later0 HM.out B2.out h00.out)).mono ?_
      rintro e w4 ⟨rfl, b4⟩
      have B4 := Lib.hid (B2.out.trans (b4.mono B2.out.size))
      clear b4
      go_wp2_with fail
      go_ret
      exact ⟨rfl, B4.out⟩

end Go.Proofs.YtgnmanmlnbidfaaDoor
