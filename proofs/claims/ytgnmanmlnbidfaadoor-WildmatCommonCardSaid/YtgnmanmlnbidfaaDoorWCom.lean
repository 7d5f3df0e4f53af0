/- Wildmat: the law WildmatCommon, by a walk through its text. -/
import Derived.Test.YtgnmanmlnbidfaaDoorRCom
import Derived.Test.YtgnmanmlnbidfaaDoorRComp
import Derived.Test.YtgnmanmlnbidfaaDoorWDis
namespace Go.Proofs.YtgnmanmlnbidfaaDoor
open Go.RowKit

theorem comp_both2 (s : ByteArray) (w : World) (hs : s.size ≤ 100000) : Calls Tryd.prog 12 #[.string s] w fun e w' =>
    (∃ (p : Value) (a : Nat), e = .returned (.tuple #[p, .int .i64 a, .int .i64 ((compF (chars s)).2.2 : Nat)]) ∧ (((compF (chars s)).2.2 = 0 ∧ ∃ b A cap, p = .pointer (some ⟨b, 0, none⟩) ∧ IsPat w' w'.heap.size b s (compF (chars s)).1 A cap) ∨ ((compF (chars s)).2.2 ≠ 0 ∧ p = .pointer none))) ∧ Below w.heap.size w w' := by
  refine (Compile_any s w hs).mono ?_
  rintro e w' ⟨⟨p, rfl, hans⟩, hB⟩
  refine ⟨⟨p, _, rfl, ?_⟩, hB⟩
  rcases hans with ⟨h0, b, A, cap, rfl, _, _, hp⟩ | h
  · exact .inl ⟨h0, b, A, cap, rfl, hp⟩
  · exact .inr h

theorem compF_short (l : List Nat) : (compF l).1.length ≤ l.length := by
  unfold compF
  split
  · simp
  · split
    · simp
    · simp only
      split
      · have := (comp_ok (l.length + 1) l [] (by simp)).2
        simp only [List.length_nil, Nat.zero_add] at this
        exact this
      · simp

/-- The best common string: both match it. -/
theorem best_both {P Q : List El} (hP : ∀ x ∈ P, x.ok) (hQ : ∀ x ∈ Q, x.ok) {v : List Nat} (h : bestF P Q = some v) : matchF P (chars (bytesOf v)) = true ∧ matchF Q (chars (bytesOf v)) = true ∧ (bytesOf v).size ≤ P.length + Q.length := by
  have hb := bestF_ok hP hQ
  rw [h] at hb
  have hg := good_F P Q v h
  have hc := chars_bytesOf hg.1
  rw [hc, bytesOf_size]
  exact ⟨(matchF_iff _ _).2 hb.1.1, (matchF_iff _ _).2 hb.1.2, hg.2⟩

set_option maxRecDepth 100000 in
set_option maxHeartbeats 4000000 in
theorem com_walk (s r : ByteArray) (m : Int) (w : World) (hm : w.cell? ⟨0, 0, none⟩ = some (.int .i64 m)) : Calls Tryd.prog 5 #[.string s, .string r] w fun e w' => e = .returned (.bool true) ∧ Below w.heap.size w w' := by
  have HM := Lib.hid hm
  have h00 := Lib.hid (World.block_lt_of_cell? _ _ hm)
  have hts := cut_size s 40
  have hus := cut_size r 40
  have C1 : Hid (∀ w, Calls Tryd.prog 11 #[.string s, .int .i64 40] w fun e w' => e = .returned (.string (s.extract 0 (min s.size 40))) ∧ w = w') := Lib.hid (fun w => cut_any s 40 w)
  have C2 : Hid (∀ w, Calls Tryd.prog 11 #[.string r, .int .i64 40] w fun e w' => e = .returned (.string (r.extract 0 (min r.size 40))) ∧ w = w') := Lib.hid (fun w => cut_any r 40 w)
  generalize s.extract 0 (min s.size 40) = t at *
  generalize r.extract 0 (min r.size 40) = u at *
  clear hm
  obtain ⟨R, hR⟩ : ∃ R, compF (chars t) = R := ⟨_, rfl⟩
  obtain ⟨S, hS⟩ : ∃ S, compF (chars u) = S := ⟨_, rfl⟩
  have K1 := comp_both2 t
  have K2 := RCompile_any t
  have L1 := comp_both2 u
  have L2 := RCompile_any u
  rw [hR] at K1 K2
  rw [hS] at L1 L2
  have K1 := Lib.hid K1
  have K2 := Lib.hid K2
  have L1 := Lib.hid L1
  have L2 := Lib.hid L2
  have OP : Hid (∀ e ∈ R.1, e.ok) := Lib.hid (by rw [← hR]; exact compF_ok _)
  have OQ : Hid (∀ e ∈ S.1, e.ok) := Lib.hid (by rw [← hS]; exact compF_ok _)
  have NP : Hid (R.1.length ≤ 40) := Lib.hid (by have := compF_short (chars t); rw [hR, chars_length] at this; omega)
  have NQ : Hid (S.1.length ≤ 40) := Lib.hid (by have := compF_short (chars u); rw [hS, chars_length] at this; omega)
  clear hR hS
  go_enter Tryd.func5, Tryd.ntmps5
  go_wp2_with fail
  refine (C1.out _).mono ?_
  rintro e w1 ⟨rfl, rfl⟩
  go_wp2_with fail
  refine (C2.out _).mono ?_
  rintro e w1 ⟨rfl, rfl⟩
  clear C1 C2
  go_wp2_with fail
  refine (K1.out _ (by omega)).mono ?_
  rintro e w1 ⟨⟨p1, a1, rfl, h1⟩, b1⟩
  have H1 := Lib.hid h1
  have B1 := Lib.hid b1
  clear b1 h1
  go_wp2_with fail
  refine (L1.out _ (by omega)).mono ?_
  rintro e w2 ⟨⟨p2, a2, rfl, h2⟩, b2⟩
  have H2 := Lib.hid h2
  have b2' := Lib.hid b2
  have B2 := Lib.hid (B1.out.trans (b2.mono B1.out.size))
  clear b2 h2 K1 L1
  rcases H1.out with ⟨z1, pb, A1, cap1, rfl, hp1⟩ | ⟨hn, rfl⟩
  · rcases H2.out with ⟨z2, qb, A2, cap2, rfl, hp2⟩ | ⟨hn2, rfl⟩
    · have HP := Lib.hid (hp1.later b2'.out)
      have HQ := Lib.hid hp2
      clear H1 H2 b2' hp1 hp2
      have e1 : ((R.2.2 : Int) != 0) = false := by rw [z1]; rfl
      have e2 : ((S.2.2 : Int) != 0) = false := by rw [z2]; rfl
      clear z1 z2
      go_wp2_with fail
      refine (K2.out _ (by omega)).mono ?_
      rintro e w3 ⟨⟨tx, A3, c3, rfl, hx3⟩, b3⟩
      have BX : Hid (Below w2.heap.size w2 (w3.alloc (.cells #[.string tx, .slice A3 R.1.length c3] 29))) := Lib.hid (b3.alloc b3.size _)
      have HX3 : Hid (IsRef (w3.alloc (.cells #[.string tx, .slice A3 R.1.length c3] 29)) (w3.alloc (.cells #[.string tx, .slice A3 R.1.length c3] 29)).heap.size A3 R.1) := Lib.hid (hx3.later ((Below.refl _ _).alloc (Nat.le_refl _) _))
      have xb0 := heap_alloc_new w3 (.cells #[.string tx, .slice A3 R.1.length c3] 29)
      clear hx3 b3 K2
      obtain ⟨W3, hW3⟩ : ∃ W3, w3.alloc (.cells #[.string tx, .slice A3 R.1.length c3] 29) = W3 := ⟨_, rfl⟩
      obtain ⟨xb, hxb⟩ : ∃ xb, w3.heap.size = xb := ⟨_, rfl⟩
      rw [hW3] at BX HX3 xb0
      rw [hxb] at xb0
      have x0 : Hid (W3.cell? ⟨xb, 0, none⟩ = some (.string tx)) := Lib.hid (by simp only [World.cell?, xb0]; rfl)
      have x1 : Hid (W3.cell? ⟨xb, 1, none⟩ = some (.slice A3 R.1.length c3)) := Lib.hid (by simp only [World.cell?, xb0]; rfl)
      have xlt : Hid (xb < W3.heap.size) := Lib.hid (lt_of_block xb0)
      clear xb0
      have B3 := Lib.hid (B2.out.trans (BX.out.mono B2.out.size))
      have HP3 := Lib.hid (HP.out.later BX.out)
      have HQ3 := Lib.hid (HQ.out.later BX.out)
      clear BX HP HQ B2
      go_wp2_with fail
      refine (L2.out _ (by omega)).mono ?_
      rintro e w4 ⟨⟨ty, A4, c4, rfl, hy4⟩, b4⟩
      have BY : Hid (Below W3.heap.size W3 (w4.alloc (.cells #[.string ty, .slice A4 S.1.length c4] 29))) := Lib.hid (b4.alloc b4.size _)
      have HY4 : Hid (IsRef (w4.alloc (.cells #[.string ty, .slice A4 S.1.length c4] 29)) (w4.alloc (.cells #[.string ty, .slice A4 S.1.length c4] 29)).heap.size A4 S.1) := Lib.hid (hy4.later ((Below.refl _ _).alloc (Nat.le_refl _) _))
      have yb0 := heap_alloc_new w4 (.cells #[.string ty, .slice A4 S.1.length c4] 29)
      clear hy4 b4 L2
      obtain ⟨W4, hW4⟩ : ∃ W4, w4.alloc (.cells #[.string ty, .slice A4 S.1.length c4] 29) = W4 := ⟨_, rfl⟩
      obtain ⟨yb, hyb⟩ : ∃ yb, w4.heap.size = yb := ⟨_, rfl⟩
      rw [hW4] at BY HY4 yb0
      rw [hyb] at yb0
      have y0 : W4.cell? ⟨yb, 0, none⟩ = some (.string ty) := by simp only [World.cell?, yb0]; rfl
      have y1 : W4.cell? ⟨yb, 1, none⟩ = some (.slice A4 S.1.length c4) := by simp only [World.cell?, yb0]; rfl
      have x2 := (BY.out.cell (p := ⟨xb, 0, none⟩) xlt.out).trans x0.out
      have x3 := (BY.out.cell (p := ⟨xb, 1, none⟩) xlt.out).trans x1.out
      clear yb0
      have B4 := Lib.hid (B3.out.trans (BY.out.mono B3.out.size))
      have HP4 := Lib.hid (HP3.out.later BY.out)
      have HQ4 := Lib.hid (HQ3.out.later BY.out)
      have HX4 := Lib.hid (HX3.out.later BY.out)
      clear BY HP3 HQ3 HX3 B3 x0 x1 xlt
      generalize R.2.2 = r2 at *
      generalize R.2.1 = r1 at *
      generalize R.1 = P at *
      generalize S.2.2 = s2 at *
      generalize S.2.1 = s1 at *
      generalize S.1 = Q at *
      obtain ⟨B, hB⟩ : ∃ B, bestF P Q = B := ⟨_, rfl⟩
      have hB2 : bestF Q P = B := by rw [bestF_comm OP.out OQ.out, hB]
      have HBB := Lib.hid hB
      have HBB2 := Lib.hid hB2
      clear hB hB2
      have QX : Hid (xb < W4.heap.size ∧ yb < W4.heap.size) := Lib.hid ⟨World.block_lt_of_cell? _ _ x2, World.block_lt_of_cell? _ _ y0⟩
      go_upto_region 8 with fail
      go_wp2_with fail
      refine (Common_any _ _ _ _ _ _ _ _ _ _ _ _ HP4.out HQ4.out (Nat.le_refl _)).mono ?_
      rintro e w5 ⟨rfl, b5⟩
      rw [HBB.out]
      have x4 := (b5.cell (p := ⟨xb, 0, none⟩) QX.out.1).trans x2
      have x5 := (b5.cell (p := ⟨xb, 1, none⟩) QX.out.1).trans x3
      have y4 := (b5.cell (p := ⟨yb, 0, none⟩) QX.out.2).trans y0
      have y5 := (b5.cell (p := ⟨yb, 1, none⟩) QX.out.2).trans y1
      have HX5 := Lib.hid (HX4.out.later b5)
      have HY5 := Lib.hid (HY4.out.later b5)
      have HP5 := Lib.hid (HP4.out.later b5)
      have HQ5 := Lib.hid (HQ4.out.later b5)
      have B5 := Lib.hid (B4.out.trans (b5.mono B4.out.size))
      clear b5 x2 x3 y0 y1 HX4 HY4 HP4 HQ4 B4 QX
      go_wp2_with fail
      refine (RCommon_any tx ty A3 A4 P Q c3 c4 _ HX5.out HY5.out (Nat.le_trans NP.out (by omega)) (Nat.le_trans NQ.out (by omega)) OP.out OQ.out).mono ?_
      rintro e w6 ⟨rfl, b6⟩
      rw [HBB.out, show ansS B = bytesOf (B.getD []) from rfl]
      have HP6 := Lib.hid (HP5.out.later b6)
      have HQ6 := Lib.hid (HQ5.out.later b6)
      have B6 := Lib.hid (B5.out.trans (b6.mono B5.out.size))
      clear b6 x4 x5 y4 y5 HX5 HY5 HP5 HQ5 B5
      go_wp2_with fail
      refine (Common_any _ _ _ _ _ _ _ _ _ _ _ _ HQ6.out HP6.out (Nat.le_refl _)).mono ?_
      rintro e w7 ⟨rfl, b7⟩
      rw [HBB2.out]
      have HP7 := Lib.hid (HP6.out.later b7)
      have HQ7 := Lib.hid (HQ6.out.later b7)
      have B7 := Lib.hid (B6.out.trans (b7.mono B6.out.size))
      clear b7 HP6 HQ6 B6
      go_wp2_with fail
      refine (known_any m _ (cell_later0 HM.out B7.out h00.out)).mono ?_
      rintro e w8 ⟨rfl, b8⟩
      have HP8 := Lib.hid (HP7.out.later b8)
      have HQ8 := Lib.hid (HQ7.out.later b8)
      have B8 := Lib.hid (B7.out.trans (b8.mono B7.out.size))
      clear b8 HP7 HQ7 B7
      cases B with
      | none =>
        generalize bytesOf ((none : Option (List Nat)).getD []) = nm0
        rw [show (none : Option (List Nat)).isSome = false from rfl]
        go_wp2_with fail
        go_ret
        exact ⟨rfl, B8.out⟩
      | some v =>
        obtain ⟨g1, g2, g3⟩ := best_both OP.out OQ.out HBB.out
        rw [show (some v).isSome = true from rfl, show (some v).getD [] = v from rfl]
        have g4 : (bytesOf v).size ≤ 100 := by have := NP.out; have := NQ.out; omega
        generalize bytesOf v = nm0 at *
        have G1 := Lib.hid g1
        have G2 := Lib.hid g2
        clear g1 g2 g3
        go_wp2_with fail
        refine (Match_any _ _ _ _ _ _ _ HP8.out g4).mono ?_
        rintro e w9 ⟨rfl, b9⟩
        rw [G1.out]
        have HQ9 := Lib.hid (HQ8.out.later b9)
        have B9 := Lib.hid (B8.out.trans (b9.mono B8.out.size))
        clear b9 HP8 HQ8 B8
        go_wp2_with fail
        refine (Match_any _ _ _ _ _ _ _ HQ9.out g4).mono ?_
        rintro e wa ⟨rfl, ba⟩
        rw [G2.out]
        have BA := Lib.hid (B9.out.trans (ba.mono B9.out.size))
        clear ba
        go_wp2_with fail
        go_ret
        exact ⟨rfl, BA.out⟩
    · have e1 : ((R.2.2 : Int) != 0) = false := by rw [z1]; rfl
      have e2 : ((S.2.2 : Int) != 0) = true := by rw [bne_iff_ne]; omega
      clear H1 H2 hn2
      go_wp2_with fail
      refine (known_any m _ (cell_later0 HM.out B2.out h00.out)).mono ?_
      rintro e w4 ⟨rfl, b4⟩
      have B4 := Lib.hid (B2.out.trans (b4.mono B2.out.size))
      clear b4
      go_wp2_with fail
      go_ret
      exact ⟨rfl, B4.out⟩
  · have e1 : ((R.2.2 : Int) != 0) = true := by rw [bne_iff_ne]; omega
    clear H1 H2 hn
    go_wp2_with fail
    refine (known_any m _ (cell_later0 HM.out B2.out h00.out)).mono ?_
    rintro e w4 ⟨rfl, b4⟩
    have B4 := Lib.hid (B2.out.trans (b4.mono B2.out.size))
    clear b4
    go_wp2_with fail
    go_ret
    exact ⟨rfl, B4.out⟩

end Go.Proofs.YtgnmanmlnbidfaaDoor
