/- Wildmat: the law WildmatMatches, by a walk through its text. -/
import Derived.Test.YtgnmanmlnbidfaaDoorRComp
import Derived.Test.YtgnmanmlnbidfaaDoorRMat
import Derived.Deep.RegionWith
namespace Go.Proofs.YtgnmanmlnbidfaaDoor
open Go.RowKit

theorem comp_both (s : ByteArray) (w : World) (hs : s.size ≤ 100000) : Calls Tryd.prog 12 #[.string s] w fun e w' =>
    (∃ (p : Value) (a : Nat), e = .returned (.tuple #[p, .int .i64 a, .int .i64 ((compF (chars s)).2.2 : Nat)]) ∧ (((compF (chars s)).2.2 = 0 ∧ ∃ b A cap, p = .pointer (some ⟨b, 0, none⟩) ∧ IsPat w' w'.heap.size b s (compF (chars s)).1 A cap) ∨ ((compF (chars s)).2.2 ≠ 0 ∧ p = .pointer none))) ∧ Below w.heap.size w w' := by
  refine (Compile_any s w hs).mono ?_
  rintro e w' ⟨⟨p, rfl, hans⟩, hB⟩
  refine ⟨⟨p, _, rfl, ?_⟩, hB⟩
  rcases hans with ⟨h0, b, A, cap, rfl, _, _, hp⟩ | h
  · exact .inl ⟨h0, b, A, cap, rfl, hp⟩
  · exact .inr h

set_option maxRecDepth 100000 in
set_option maxHeartbeats 4000000 in
theorem mat_walk (s n : ByteArray) (m : Int) (w : World) (hm : w.cell? ⟨0, 0, none⟩ = some (.int .i64 m)) : Calls Tryd.prog 3 #[.string s, .string n] w fun e w' => e = .returned (.bool true) ∧ Below w.heap.size w w' := by
  have HM := Lib.hid hm
  have h00 := Lib.hid (World.block_lt_of_cell? _ _ hm)
  have hts := cut_size s 100
  have hus := cut_size n 100
  have C1 : Hid (∀ w, Calls Tryd.prog 11 #[.string s, .int .i64 100] w fun e w' => e = .returned (.string (s.extract 0 (min s.size 100))) ∧ w = w') := Lib.hid (fun w => cut_any s 100 w)
  have C2 : Hid (∀ w, Calls Tryd.prog 11 #[.string n, .int .i64 100] w fun e w' => e = .returned (.string (n.extract 0 (min n.size 100))) ∧ w = w') := Lib.hid (fun w => cut_any n 100 w)
  generalize s.extract 0 (min s.size 100) = t at *
  generalize n.extract 0 (min n.size 100) = u at *
  clear hm
  obtain ⟨R, hR⟩ : ∃ R, compF (chars t) = R := ⟨_, rfl⟩
  have K1 := comp_both t
  have K2 := RCompile_any t
  rw [hR] at K1 K2
  have K1 := Lib.hid K1
  have K2 := Lib.hid K2
  have HOK : Hid (∀ e ∈ R.1, e.ok) := Lib.hid (by rw [← hR]; exact compF_ok _)
  have HLEN : Hid (R.1.length ≤ 80) := Lib.hid (by rw [← hR]; exact compF_len _)
  clear hR
  go_enter Tryd.func3, Tryd.ntmps3
  go_wp2_with fail
  refine (C1.out _).mono ?_
  rintro e w1 ⟨rfl, rfl⟩
  go_wp2_with fail
  refine (C2.out _).mono ?_
  rintro e w1 ⟨rfl, rfl⟩
  clear C1 C2
  go_wp2_with fail
  refine (K1.out _ (by omega)).mono ?_
  rintro e w1 ⟨⟨p1, a1, rfl, h1⟩, b1⟩
  have H1 := Lib.hid h1
  have B1 := Lib.hid b1
  clear b1 h1
  go_wp2_with fail
  refine (K2.out _ (by omega)).mono ?_
  rintro e w2 ⟨⟨txt, A, cap, rfl, hrf⟩, b2⟩
  have HRF := Lib.hid hrf
  have b2' := Lib.hid b2
  have B2 := Lib.hid (B1.out.trans (b2.mono B1.out.size))
  clear hrf b2 K1 K2
  by_cases h0 : R.2.2 = 0
  · have e0 : ((R.2.2 : Int) != 0) = false := by rw [h0]; rfl
    have e1 : ((R.2.2 : Int) == 0) = true := by rw [h0]; rfl
    rcases H1.out with ⟨_, b, A1, cap1, rfl, hp1⟩ | ⟨hn, _⟩
    · have HP := Lib.hid (hp1.later b2'.out)
      clear hp1 H1 b2'
      generalize R.2.2 = r2 at *
      generalize R.2.1 = r1 at *
      generalize R.1 = L at *
      go_upto_region 6 with fail
      obtain ⟨W3, hW3⟩ : ∃ W3, w2.alloc (.cells #[.string txt, .slice A L.length cap] 29) = W3 := ⟨_, rfl⟩
      obtain ⟨qb, hqb⟩ : ∃ qb, w2.heap.size = qb := ⟨_, rfl⟩
      have b3 : Below w2.heap.size w2 W3 := by rw [← hW3]; exact (Below.refl _ _).alloc (Nat.le_refl _) _
      have hx := heap_alloc_new w2 (.cells #[.string txt, .slice A L.length cap] 29)
      rw [hW3, hqb] at hx
      have q0 : W3.drew.cell? ⟨qb, 0, none⟩ = some (.string txt) := by simp only [World.cell?, heap_drew, hx]; rfl
      have q1 : W3.drew.cell? ⟨qb, 1, none⟩ = some (.slice A L.length cap) := by simp only [World.cell?, heap_drew, hx]; rfl
      have QB : Hid (qb < W3.drew.heap.size) := Lib.hid (World.block_lt_of_cell? _ _ q0)
      have BB : Hid (Below w.heap.size w W3.drew) := Lib.hid (B2.out.trans (b3.mono B2.out.size)).drew
      have HPP : Hid (IsPat W3.drew W3.drew.heap.size b t L A1 cap1) := Lib.hid (HP.out.later b3.drew)
      have HRR : Hid (IsRef W3.drew W3.drew.heap.size A L) := Lib.hid (HRF.out.later b3.drew)
      rw [hqb, hW3]
      obtain ⟨mx, hmx⟩ : ∃ mx, matchF L (chars u) = mx := ⟨_, rfl⟩
      obtain ⟨ex, hex⟩ : ∃ ex, emptyF L = ex := ⟨_, rfl⟩
      have HMX := Lib.hid hmx
      have HEX := Lib.hid hex
      clear hx hW3 hqb hmx hex b3 HP HRF B1 B2 e0 h0
      go_region_with (first
        | (go_at_call 14; refine (known_any m _ (cell_later0 HM.out BB.out h00.out)).mono ?_; rintro e wn ⟨rfl, bn⟩; replace q0 := (bn.cell (p := ⟨qb, 0, none⟩) QB.out).trans q0; replace q1 := (bn.cell (p := ⟨qb, 1, none⟩) QB.out).trans q1; replace QB := Lib.hid (Nat.lt_of_lt_of_le QB.out bn.size); replace HPP := Lib.hid (HPP.out.later bn); replace HRR := Lib.hid (HRR.out.later bn); replace BB := Lib.hid (BB.out.trans (bn.mono BB.out.size)); clear bn)
        | (go_at_call 15; refine (Match_any _ _ _ _ _ _ _ HPP.out (by omega)).mono ?_; rintro e wn ⟨rfl, bn⟩; rw [HMX.out]; replace q0 := (bn.cell (p := ⟨qb, 0, none⟩) QB.out).trans q0; replace q1 := (bn.cell (p := ⟨qb, 1, none⟩) QB.out).trans q1; replace QB := Lib.hid (Nat.lt_of_lt_of_le QB.out bn.size); replace HPP := Lib.hid (HPP.out.later bn); replace HRR := Lib.hid (HRR.out.later bn); replace BB := Lib.hid (BB.out.trans (bn.mono BB.out.size)); clear bn)
        | (go_at_call 16; refine (RMatch_any _ _ _ _ _ _ HRR.out HLEN.out HOK.out (by omega)).mono ?_; rintro e wn ⟨rfl, bn⟩; rw [HMX.out]; replace q0 := (bn.cell (p := ⟨qb, 0, none⟩) QB.out).trans q0; replace q1 := (bn.cell (p := ⟨qb, 1, none⟩) QB.out).trans q1; replace QB := Lib.hid (Nat.lt_of_lt_of_le QB.out bn.size); replace HPP := Lib.hid (HPP.out.later bn); replace HRR := Lib.hid (HRR.out.later bn); replace BB := Lib.hid (BB.out.trans (bn.mono BB.out.size)); clear bn)
        | (go_at_call 17; refine (Empty_any _ _ _ _ _ _ HPP.out).mono ?_; rintro e wn ⟨rfl, bn⟩; rw [HEX.out]; replace q0 := (bn.cell (p := ⟨qb, 0, none⟩) QB.out).trans q0; replace q1 := (bn.cell (p := ⟨qb, 1, none⟩) QB.out).trans q1; replace QB := Lib.hid (Nat.lt_of_lt_of_le QB.out bn.size); replace HPP := Lib.hid (HPP.out.later bn); replace HRR := Lib.hid (HRR.out.later bn); replace BB := Lib.hid (BB.out.trans (bn.mono BB.out.size)); clear bn)
        | (go_at_call 18; refine (REmpty_any _ _ _ _ _ HRR.out HLEN.out).mono ?_; rintro e wn ⟨rfl, bn⟩; rw [HEX.out]; replace q0 := (bn.cell (p := ⟨qb, 0, none⟩) QB.out).trans q0; replace q1 := (bn.cell (p := ⟨qb, 1, none⟩) QB.out).trans q1; replace QB := Lib.hid (Nat.lt_of_lt_of_le QB.out bn.size); replace HPP := Lib.hid (HPP.out.later bn); replace HRR := Lib.hid (HRR.out.later bn); replace BB := Lib.hid (BB.out.trans (bn.mono BB.out.size)); clear bn))
      all_goals go_wp2_with fail
      all_goals go_ret
      all_goals exact ⟨rfl, BB.out⟩
    · exact absurd h0 hn
  · have e0 : ((R.2.2 : Int) != 0) = true := by rw [bne_iff_ne]; omega
    rcases H1.out with ⟨hn, _⟩ | ⟨_, rfl⟩
    · exact absurd hn h0
    · clear H1 h0
      have hq : Hid (Below w.heap.size w (w2.alloc (.cells #[.string txt, .slice A R.1.length cap] 29))) := Lib.hid (B2.out.alloc B2.out.size _)
      go_wp2_with fail
      refine (known_any m _ (cell_later0 HM.out hq.out h00.out)).mono ?_
      rintro e w4 ⟨rfl, b4⟩
      have B4 := Lib.hid (hq.out.trans (b4.mono hq.out.size))
      clear b4
      go_wp2_with fail
      go_ret
      exact ⟨rfl, B4.out⟩

end Go.Proofs.YtgnmanmlnbidfaaDoor
