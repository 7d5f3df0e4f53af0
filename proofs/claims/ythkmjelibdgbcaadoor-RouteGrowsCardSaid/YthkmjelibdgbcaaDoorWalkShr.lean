/- Route: the law RouteShares, by a walk through its text. -/
import Derived.Test.YthkmjelibdgbcaaDoorPlain3
namespace Go.Proofs.YthkmjelibdgbcaaDoor
open Go.RowKit

theorem ReadsS.take {w : World} {A : Option Addr} {l : List ByteArray} (h : ReadsS w A l) (m : Nat) : ReadsS w A (l.take m) := by
  rcases h with rfl | ⟨b, off, rfl, hb, hc⟩
  · exact .inl (by simp)
  · refine .inr ⟨b, off, rfl, hb, fun i hi => ?_⟩
    rw [List.length_take] at hi
    rw [hc i (by omega)]
    rw [List.getD_eq_getElem?_getD, List.getD_eq_getElem?_getD, List.getElem?_take_of_lt (by omega)]

theorem prep_ok {l : List ByteArray} {x : ByteArray} (h : (prepF l x).2 = 0) : (prepF l x).1 = (x :: l).take 50 := by
  unfold prepF at h ⊢
  split at h
  · rename_i h1
    exact absurd h h1
  · split at h
    · rename_i h1 h2
      exact absurd h h2
    · rename_i h1 h2
      rw [if_neg h1, if_neg h2]

theorem prep_len (l : List ByteArray) (x : ByteArray) : (prepF l x).1.length ≤ 50 := by
  unfold prepF
  split
  · simp
  · split
    · simp
    · simp; omega

set_option maxHeartbeats 2000000 in
theorem shares_walk (A : Option Addr) (ca : Nat) (l : List ByteArray) (one two : ByteArray) (m : Int) (w : World) (hm : w.cell? ⟨0, 0, none⟩ = some (.int .i64 m)) (hr : ReadsS w A l) (hc : l.length ≤ ca) :
    Calls Tryd.prog 9 #[.slice A l.length ca, .string one, .string two] w fun e w' => e = .returned (.bool true) ∧ Below w.heap.size w w' := by
  have HM := Lib.hid hm
  have h0 := Lib.hid (cell_lt hm)
  obtain ⟨n, hn⟩ : ∃ n : Nat, min (l.length : Int) 40 = (n : Int) := ⟨min l.length 40, by omega⟩
  have hnc : n ≤ ca := by omega
  have hl40 : Hid ((l.take n).length = n) := Lib.hid (by rw [List.length_take]; omega)
  have hn40 : n ≤ 40 := by omega
  have HR := Lib.hid (hr.take n)
  obtain ⟨n1, hn1⟩ : ∃ n : Nat, min (one.size : Int) 40 = (n : Int) := ⟨min one.size 40, by omega⟩
  have hn1l : n1 ≤ one.size := by omega
  obtain ⟨n2, hn2⟩ : ∃ n : Nat, min (two.size : Int) 40 = (n : Int) := ⟨min two.size 40, by omega⟩
  have hn2l : n2 ≤ two.size := by omega
  clear hm hr
  go_enter Tryd.func9, Tryd.ntmps9
  go_wp2_with fail
  have HC := cut_any A ca (l.take n) w HR.out
  rw [hl40.out] at HC
  refine HC.mono ?_
  clear HC
  rintro e w1 ⟨⟨A1, cap1, rfl, O1⟩, b1⟩
  have hlen : (cutF (l.take n)).length ≤ 40 := by simp [cutF]; omega
  generalize cutF (l.take n) = r at *
  obtain ⟨R1, hc1, hnil1⟩ := O1.open_
  have B1 := Lib.hid b1
  have RR1 := Lib.hid R1
  have HC1 := Lib.hid hc1
  have HN1 := Lib.hid hnil1
  clear O1 b1 R1 hc1 hnil1
  go_wp2_with fail
  refine (Prepend_any A1 cap1 r (one.extract 0 n1) w1 RR1.out (by omega) HN1.out).mono ?_
  rintro e w2 ⟨A2, cap2, rfl, O2, b2⟩
  have B2 := Lib.hid (B1.out.trans (b2.mono B1.out.size))
  have RR2 := Lib.hid (RR1.out.below b2)
  have P1 := Lib.hid (fun h => prep_ok (l := r) (x := one.extract 0 n1) h)
  have L1 := prep_len r (one.extract 0 n1)
  go_wp2_with fail
  refine (Prepend_any A1 cap1 r (two.extract 0 n2) w2 RR2.out (by omega) HN1.out).mono ?_
  rintro e w3 ⟨A3, cap3, rfl, O3, b3⟩
  have B3 := Lib.hid (B2.out.trans (b3.mono B2.out.size))
  have RR3 := Lib.hid (RR2.out.below b3)
  have P2 := Lib.hid (fun h => prep_ok (l := r) (x := two.extract 0 n2) h)
  have L2 := prep_len r (two.extract 0 n2)
  generalize one.extract 0 n1 = x at *
  generalize two.extract 0 n2 = y at *
  generalize prepF r x = p at *
  generalize prepF r y = q at *
  obtain ⟨la, ea⟩ := p
  obtain ⟨lb, eb⟩ := q
  simp only at O2 O3 P1 P2 L1 L2
  obtain ⟨R2, hc2, hnil2⟩ := O2.open_
  obtain ⟨R3, hc3, hnil3⟩ := O3.open_
  have RA3 := Lib.hid (R2.below b3)
  have RB3 := Lib.hid R3
  have HCA := Lib.hid hc2
  have HNA := Lib.hid hnil2
  clear O2 O3 b2 b3 R2 R3 hc2 hc3 hnil2 hnil3 hn1 hn2 hn1l hn2l
  have HM3 := Lib.hid ((B3.out.cell (p := ⟨0, 0, none⟩) h0.out).trans HM.out)
  by_cases he : ea = 0
  · have b0 := nz_no he
    by_cases hf : eb = 0
    · have c0 := nz_no hf
      have ela : la = x :: r := by rw [P1.out he, List.take_of_length_le (by simp; omega)]
      have elb : lb = y :: r := by rw [P2.out hf, List.take_of_length_le (by simp; omega)]
      subst ela
      subst elb
      obtain ⟨ba, oa, hA⟩ := RA3.out.some_of (by simp)
      obtain ⟨bb, ob, hB⟩ := RB3.out.some_of (by simp)
      subst hA
      subst hB
      obtain ⟨_, _, e1, hba, hca⟩ := RA3.out.at (k := 0) (by simp)
      cases e1
      obtain ⟨_, _, e2, hbb, hcb⟩ := RB3.out.at (k := 0) (by simp)
      cases e2
      have kx : w3.cell? ⟨ba, oa, none⟩ = some (.string x) := hca
      have ky : w3.cell? ⟨bb, ob, none⟩ = some (.string y) := hcb
      have z1 : (((r.length + 1 : Nat) : Int) == 0) = false := by simp; omega
      have z2 : (0 : Int) < ((r.length + 1 : Nat) : Int) := by omega
      have z3 : (((r.length : Int) + 1) == 0) = false := by simp; omega
      clear he hf hca hcb
      by_cases hxy : x = y
      · have heq : (x.toList == y.toList) = true := by rw [hxy]; simp
        clear hxy
        go_wp2_with fail
        go_quiet (fail)
        have HM4 : Hid ((w3.drewN nq).cell? ⟨0, 0, none⟩ = some (.int .i64 m)) := HM3
        have B4 := Lib.hid (below_drewN B3.out nq)
        generalize w3.drewN nq = w4 at *
        go_wp2_with fail
        refine (known_any m w4 HM4.out).mono ?_
        rintro e w5 ⟨rfl, b5⟩
        have B5 := Lib.hid (B4.out.trans (b5.mono B4.out.size))
        clear b5
        go_wp2_with fail
        go_ret
        exact ⟨rfl, B5.out⟩
      · have heq : (x.toList == y.toList) = false := by rw [beq_str, decide_eq_false hxy]
        have HF := Lib.hid (comF_parts (r := r) hxy)
        clear hxy
        go_wp2_with fail
        go_quiet (fail)
        have HM4 : Hid ((w3.drewN nq).cell? ⟨0, 0, none⟩ = some (.int .i64 m)) := HM3
        have B4 := Lib.hid (below_drewN B3.out nq)
        have RA4 := Lib.hid (RA3.out.below (below_drewN (Below.refl _ _) nq))
        have RB4 := Lib.hid (RB3.out.below (below_drewN (Below.refl _ _) nq))
        have RR4 := Lib.hid (RR3.out.below (below_drewN (Below.refl _ _) nq))
        generalize w3.drewN nq = w4 at *
        go_wp2_with fail
        refine (known_any m w4 HM4.out).mono ?_
        rintro e w5 ⟨rfl, b5⟩
        have B5 := Lib.hid (B4.out.trans (b5.mono B4.out.size))
        have RA5 := Lib.hid (RA4.out.below b5)
        have RB5 := Lib.hid (RB4.out.below b5)
        have RR5 := Lib.hid (RR4.out.below b5)
        clear b5
        go_wp2_with fail
        have HCM := Common_any (some ⟨ba, oa, none⟩) (some ⟨bb, ob, none⟩) cap2 cap3 (x :: r) (y :: r) w5 RA5.out RB5.out (by simp; omega) (by simp; omega) HCA.out HNA.out
        rw [HF.out] at HCM
        refine HCM.mono ?_
        clear HCM
        rintro e w6 ⟨A6, cap6, rfl, O6, b6⟩
        obtain ⟨R6, _, _⟩ := O6.open_
        have B6 := Lib.hid (B5.out.trans (b6.mono B5.out.size))
        have RR6 := Lib.hid (RR5.out.below b6)
        have RD6 := Lib.hid R6
        clear O6 b6 R6
        go_wp2_with fail
        refine (Same_refl A6 A1 cap6 cap1 r w6 RD6.out RR6.out (by omega)).mono ?_
        rintro e w7 ⟨rfl, b7⟩
        have B7 := Lib.hid (B6.out.trans (b7.mono B6.out.size))
        clear b7
        go_wp2_with fail
        go_ret
        exact ⟨rfl, B7.out⟩
    · have c0 := nz_yes hf
      clear he hf
      go_wp2_with fail
      go_quiet (fail)
      have HM4 : Hid ((w3.drewN nq).cell? ⟨0, 0, none⟩ = some (.int .i64 m)) := HM3
      have B4 := Lib.hid (below_drewN B3.out nq)
      generalize w3.drewN nq = w4 at *
      go_wp2_with fail
      refine (known_any m w4 HM4.out).mono ?_
      rintro e w5 ⟨rfl, b5⟩
      have B5 := Lib.hid (B4.out.trans (b5.mono B4.out.size))
      clear b5
      go_wp2_with fail
      go_ret
      exact ⟨rfl, B5.out⟩
  · have b0 := nz_yes he
    clear he
    go_wp2_with fail
    go_quiet (fail)
    have HM4 : Hid ((w3.drewN nq).cell? ⟨0, 0, none⟩ = some (.int .i64 m)) := HM3
    have B4 := Lib.hid (below_drewN B3.out nq)
    generalize w3.drewN nq = w4 at *
    go_wp2_with fail
    refine (known_any m w4 HM4.out).mono ?_
    rintro e w5 ⟨rfl, b5⟩
    have B5 := Lib.hid (B4.out.trans (b5.mono B4.out.size))
    clear b5
    go_wp2_with fail
    go_ret
    exact ⟨rfl, B5.out⟩

end Go.Proofs.YthkmjelibdgbcaaDoor
