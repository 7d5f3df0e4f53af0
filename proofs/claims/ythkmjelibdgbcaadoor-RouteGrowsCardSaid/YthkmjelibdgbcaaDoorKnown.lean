/- Route: the law's examples, by a walk through known's text. -/
import Derived.Test.YthkmjelibdgbcaaDoorLinks
namespace Go.Proofs.YthkmjelibdgbcaaDoor
open Go.RowKit Go.Maps

def sa : ByteArray := ⟨#[97]⟩
def sb : ByteArray := ⟨#[98]⟩
def sc : ByteArray := ⟨#[99]⟩
def sd : ByteArray := ⟨#[100]⟩

theorem parse_cba : parseF ⟨#[99, 33, 98, 33, 97]⟩ = ([⟨#[99]⟩, ⟨#[98]⟩, ⟨#[97]⟩], 0, 0) := by kernel_rfl
theorem parse_ab : parseF ⟨#[97, 33, 33, 98]⟩ = ([], 2, 4) := by kernel_rfl
theorem prep_d : prepF [⟨#[99]⟩, ⟨#[98]⟩, ⟨#[97]⟩] ⟨#[100]⟩ = ([⟨#[100]⟩, ⟨#[99]⟩, ⟨#[98]⟩, ⟨#[97]⟩], 0) := by kernel_rfl
theorem loop_b : loopF [⟨#[98]⟩, ⟨#[99]⟩, ⟨#[98]⟩, ⟨#[97]⟩] = (⟨#[98]⟩, true) := by kernel_rfl
theorem com_ba : comF [⟨#[120]⟩, ⟨#[98]⟩, ⟨#[97]⟩] [⟨#[121]⟩, ⟨#[122]⟩, ⟨#[98]⟩, ⟨#[97]⟩] = [⟨#[98]⟩, ⟨#[97]⟩] := by kernel_rfl
theorem text_dcba : textF [⟨#[100]⟩, ⟨#[99]⟩, ⟨#[98]⟩, ⟨#[97]⟩] = ⟨#[100, 33, 99, 33, 98, 33, 97]⟩ := by kernel_rfl
theorem eq_ab (w : World) : (binOp .eql 56 (.agg #[.string ⟨#[97]⟩, .string ⟨#[98]⟩]) (.agg #[.string ⟨#[97]⟩, .string ⟨#[98]⟩])).run Tryd.prog w = .ok (.bool true) w := by kernel_rfl
theorem eq_bc (w : World) : (binOp .eql 56 (.agg #[.string ⟨#[98]⟩, .string ⟨#[99]⟩]) (.agg #[.string ⟨#[98]⟩, .string ⟨#[99]⟩])).run Tryd.prog w = .ok (.bool true) w := by kernel_rfl

theorem cell_lt {w : World} {b o : Nat} {v : Value} (h : w.cell? ⟨b, o, none⟩ = some v) : b < w.heap.size := by
  rcases Nat.lt_or_ge b w.heap.size with h1 | h1
  · exact h1
  · simp [World.cell?, Array.getElem?_eq_none h1] at h

theorem ReadsS.some_of {w : World} {A : Option Addr} {l : List ByteArray} (h : ReadsS w A l) (hl : l ≠ []) : ∃ b o, A = some ⟨b, o, none⟩ := by
  rcases h with h | ⟨b, o, h, _⟩
  · exact absurd h hl
  · exact ⟨b, o, h⟩

set_option maxHeartbeats 4000000 in
theorem known_any (m : Int) (w : World) (hm : w.cell? ⟨0, 0, none⟩ = some (.int .i64 m)) :
    Calls Tryd.prog 12 #[] w fun e w' => e = .returned (.bool true) ∧ Below w.heap.size w w' := by
  have HM := Lib.hid hm
  have h0 := Lib.hid (cell_lt hm)
  clear hm
  go_enter Tryd.func12, Tryd.ntmps12
  go_wp2_with fail
  refine (Parse_any _ m w (by decide) HM.out).mono ?_
  rintro e w1 ⟨A1, cap1, rfl, O1, b1⟩
  rw [parse_cba] at O1 ⊢
  have B1 := Lib.hid b1
  obtain ⟨A1', c1', e1, R1, hc1, _, hn1⟩ := O1.reads
  obtain ⟨rfl, rfl⟩ : A1 = A1' ∧ cap1 = c1' := by cases e1; exact ⟨rfl, rfl⟩
  obtain ⟨g1, o1, rfl⟩ := R1.some_of (by simp)
  have RR1 := Lib.hid R1
  have HN1 := Lib.hid hn1
  clear e1 R1 O1 b1 hn1
  obtain ⟨_, _, ha, hg1, hcel⟩ := RR1.out.resolve_left (by simp)
  cases ha
  have k0 := hcel 0 (by decide)
  have k1 := hcel 1 (by decide)
  have k2 := hcel 2 (by decide)
  clear hcel
  simp only [List.length_cons, List.length_nil] at hc1
  go_wp2_with fail
  refine (Links_abc g1 o1 cap1 w1 hg1 k0 k1 k2).mono ?_
  rintro e w2 ⟨g2, cap2, rfl, b2, l0, l1, l2, l3⟩
  have hw1 := B1.out.size
  have B2 := Lib.hid (B1.out.trans (b2.mono hw1))
  have RR2 := Lib.hid (RR1.out.below b2)
  have hg2 := cell_lt l0
  have k0 := (b2.cell (p := ⟨g1, o1, none⟩) hg1).trans k0
  have L0 := Lib.hid l0
  have L1 := Lib.hid l1
  have L2 := Lib.hid l2
  have L3 := Lib.hid l3
  have K0 := Lib.hid k0
  have G1 := Lib.hid (Nat.lt_of_lt_of_le hg1 b2.size)
  have G2 := Lib.hid hg2
  clear b2 k1 k2 l0 l1 l2 l3 hg1 RR1 hg2 k0 hw1
  go_wp2_with fail
  -- Prepend
  refine (Prepend_any (some ⟨g1, o1, none⟩) cap1 [⟨#[99]⟩, ⟨#[98]⟩, ⟨#[97]⟩] ⟨#[100]⟩ w2 RR2.out (by simp) (fun e => by cases e)).mono ?_
  rintro e w3 ⟨A3, cap3, rfl, O3, b3⟩
  rw [prep_d] at O3 ⊢
  have B3 := Lib.hid (B2.out.trans (b3.mono B2.out.size))
  obtain ⟨A3', c3', e3, R3, hc3, _, _⟩ := O3.reads
  obtain ⟨rfl, rfl⟩ : A3 = A3' ∧ cap3 = c3' := by cases e3; exact ⟨rfl, rfl⟩
  have RR3 := Lib.hid R3
  have HC3 := Lib.hid hc3
  have b3' := Lib.hid b3
  clear e3 R3 O3 b3 hc3
  go_wp2_with fail
  -- the second Parse
  refine (Parse_any _ m w3 (by decide) ((B3.out.cell (p := ⟨0, 0, none⟩) h0.out).trans HM.out)).mono ?_
  rintro e w4 ⟨A4, cap4, rfl, O4, b4⟩
  rw [parse_ab] at O4 ⊢
  have B4 := Lib.hid (B3.out.trans (b4.mono B3.out.size))
  have RR4 := Lib.hid (RR3.out.below b4)
  have b24 := Lib.hid (b3'.out.trans (b4.mono b3'.out.size))
  clear O4 b4 b3'
  go_wp2_with fail
  -- Loop
  obtain ⟨w5, hw5⟩ : ∃ w5, w4.alloc (.cells #[.string ⟨#[98]⟩, .string ⟨#[99]⟩, .string ⟨#[98]⟩, .string ⟨#[97]⟩] 9) = w5 := ⟨_, rfl⟩
  have R5 : ReadsS w5 (some ⟨w4.heap.size, 0, none⟩) [⟨#[98]⟩, ⟨#[99]⟩, ⟨#[98]⟩, ⟨#[97]⟩] := by rw [← hw5]; exact reads_names w4 [⟨#[98]⟩, ⟨#[99]⟩, ⟨#[98]⟩, ⟨#[97]⟩]
  have b5 : Below w4.heap.size w4 w5 := by rw [← hw5]; exact (Below.refl _ _).alloc (Nat.le_refl _) _
  have B5 := Lib.hid (B4.out.trans (b5.mono B4.out.size))
  have RR5 := Lib.hid (RR4.out.below b5)
  have b25 := Lib.hid (b24.out.trans (b5.mono b24.out.size))
  rw [hw5]
  have HLP := Loop_any (some ⟨w4.heap.size, 0, none⟩) 4 [⟨#[98]⟩, ⟨#[99]⟩, ⟨#[98]⟩, ⟨#[97]⟩] w5 R5 (by simp) (by simp)
  rw [loop_b] at HLP
  refine HLP.mono ?_
  clear HLP R5 b5 hw5
  rintro e w6 ⟨rfl, b6⟩
  have B6 := Lib.hid (B5.out.trans (b6.mono B5.out.size))
  have RR6 := Lib.hid (RR5.out.below b6)
  have b26 := Lib.hid (b25.out.trans (b6.mono b25.out.size))
  clear b6
  go_wp2_with fail
  -- Common
  obtain ⟨w7, hw7⟩ : ∃ w7, (w6.alloc (.cells #[.string ⟨#[120]⟩, .string ⟨#[98]⟩, .string ⟨#[97]⟩] 9)).alloc (.cells #[.string ⟨#[121]⟩, .string ⟨#[122]⟩, .string ⟨#[98]⟩, .string ⟨#[97]⟩] 9) = w7 := ⟨_, rfl⟩
  have ba : Below w6.heap.size w6 (w6.alloc (.cells #[.string ⟨#[120]⟩, .string ⟨#[98]⟩, .string ⟨#[97]⟩] 9)) := (Below.refl _ _).alloc (Nat.le_refl _) _
  have Ra : ReadsS (w6.alloc (.cells #[.string ⟨#[120]⟩, .string ⟨#[98]⟩, .string ⟨#[97]⟩] 9)) (some ⟨w6.heap.size, 0, none⟩) [⟨#[120]⟩, ⟨#[98]⟩, ⟨#[97]⟩] := reads_names w6 [⟨#[120]⟩, ⟨#[98]⟩, ⟨#[97]⟩]
  have bb := (Below.refl (w6.alloc (.cells #[.string ⟨#[120]⟩, .string ⟨#[98]⟩, .string ⟨#[97]⟩] 9)).heap.size (w6.alloc (.cells #[.string ⟨#[120]⟩, .string ⟨#[98]⟩, .string ⟨#[97]⟩] 9))).alloc (Nat.le_refl _) (.cells #[.string ⟨#[121]⟩, .string ⟨#[122]⟩, .string ⟨#[98]⟩, .string ⟨#[97]⟩] 9)
  have Rb : ReadsS w7 (some ⟨w6.heap.size + 1, 0, none⟩) [⟨#[121]⟩, ⟨#[122]⟩, ⟨#[98]⟩, ⟨#[97]⟩] := by
    have h := reads_names (w6.alloc (.cells #[.string ⟨#[120]⟩, .string ⟨#[98]⟩, .string ⟨#[97]⟩] 9)) [⟨#[121]⟩, ⟨#[122]⟩, ⟨#[98]⟩, ⟨#[97]⟩]
    rw [World.size_alloc] at h
    rw [← hw7]; exact h
  have Ra7 : ReadsS w7 (some ⟨w6.heap.size, 0, none⟩) [⟨#[120]⟩, ⟨#[98]⟩, ⟨#[97]⟩] := by rw [← hw7]; exact Ra.below bb
  have b7 : Below w6.heap.size w6 w7 := by rw [← hw7]; exact ba.trans (bb.mono ba.size)
  have B7 := Lib.hid (B6.out.trans (b7.mono B6.out.size))
  have RR7 := Lib.hid (RR6.out.below b7)
  have b27 := Lib.hid (b26.out.trans (b7.mono b26.out.size))
  rw [hw7]
  have HCM := Common_any (some ⟨w6.heap.size, 0, none⟩) (some ⟨w6.heap.size + 1, 0, none⟩) 3 4 [⟨#[120]⟩, ⟨#[98]⟩, ⟨#[97]⟩] [⟨#[121]⟩, ⟨#[122]⟩, ⟨#[98]⟩, ⟨#[97]⟩] w7 Ra7 Rb (by simp) (by simp) (by simp) (fun e => by cases e)
  rw [com_ba] at HCM
  refine HCM.mono ?_
  clear HCM ba Ra bb Rb Ra7 b7 hw7
  rintro e w8 ⟨A8, cap8, rfl, O8, b8⟩
  have B8 := Lib.hid (B7.out.trans (b8.mono B7.out.size))
  have RR8 := Lib.hid (RR7.out.below b8)
  have b28 := Lib.hid (b27.out.trans (b8.mono b27.out.size))
  obtain ⟨A8', c8', e8, R8, hc8, _, _⟩ := O8.reads
  obtain ⟨rfl, rfl⟩ : A8 = A8' ∧ cap8 = c8' := by cases e8; exact ⟨rfl, rfl⟩
  obtain ⟨g8, o8, rfl⟩ := R8.some_of (by simp)
  have R8' := Lib.hid R8
  obtain ⟨_, _, ha, hg8, hcel⟩ := R8'.out.resolve_left (by simp)
  cases ha
  have m0 : w8.cell? ⟨g8, o8, none⟩ = some (.string ⟨#[98]⟩) := hcel 0 (by decide)
  have m1 : w8.cell? ⟨g8, o8 + 1, none⟩ = some (.string ⟨#[97]⟩) := hcel 1 (by decide)
  have k0 : w8.cell? ⟨g1, o1, none⟩ = some (.string ⟨#[99]⟩) := (b28.out.cell (p := ⟨g1, o1, none⟩) G1.out).trans K0.out
  have l0 := (b28.out.cell (p := ⟨g2, 0, none⟩) G2.out).trans L0.out
  have l1 := (b28.out.cell (p := ⟨g2, 1, none⟩) G2.out).trans L1.out
  have l2 := (b28.out.cell (p := ⟨g2, 2, none⟩) G2.out).trans L2.out
  have l3 := (b28.out.cell (p := ⟨g2, 3, none⟩) G2.out).trans L3.out
  have HM0 := Lib.hid m0
  have HM1 := Lib.hid m1
  have HG8 := Lib.hid hg8
  have q1 := eq_ab
  have q2 := eq_bc
  clear hcel e8 R8 O8 b8 hc8 m0 m1
  go_wp2_with fail
  have HST := String_any A3 cap3 [⟨#[100]⟩, ⟨#[99]⟩, ⟨#[98]⟩, ⟨#[97]⟩] w8 RR8.out (by simp) HC3.out (by rw [text_dcba]; decide)
  rw [text_dcba] at HST
  refine HST.mono ?_
  clear HST
  rintro e w9 ⟨rfl, b9⟩
  have B9 := Lib.hid (B8.out.trans (b9.mono B8.out.size))
  have m0 := (b9.cell (p := ⟨g8, o8, none⟩) HG8.out).trans HM0.out
  have m1 := (b9.cell (p := ⟨g8, o8 + 1, none⟩) HG8.out).trans HM1.out
  clear b9
  go_wp2_with fail
  go_ret
  exact ⟨rfl, B9.out⟩

end Go.Proofs.YthkmjelibdgbcaaDoor
