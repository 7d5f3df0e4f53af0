/- Wildmat: the law WildmatLiterals, by a walk through its text. -/
import Derived.Test.YtgnmanmlnbidfaaDoorKnown
namespace Go.Proofs.YtgnmanmlnbidfaaDoor
open Go.RowKit

theorem cut_size (s : ByteArray) (n : Nat) : (s.extract 0 (min s.size n)).size ≤ n := by rw [ByteArray.size_extract]; omega

theorem cell_later0 {w w' : World} {m : Int} {B : Nat} (hm : w.cell? ⟨0, 0, none⟩ = some (.int .i64 m)) (hb : Below B w w') (hB : 0 < B) : w'.cell? ⟨0, 0, none⟩ = some (.int .i64 m) := (hb.cell (p := ⟨0, 0, none⟩) hB).trans hm

set_option maxRecDepth 100000 in
set_option maxHeartbeats 4000000 in
theorem lit_walk (s n : ByteArray) (m : Int) (w : World) (hm : w.cell? ⟨0, 0, none⟩ = some (.int .i64 m)) : Calls Tryd.prog 4 #[.string s, .string n] w fun e w' => e = .returned (.bool true) ∧ Below w.heap.size w w' := by
  have HM := Lib.hid hm
  have h00 := Lib.hid (World.block_lt_of_cell? _ _ hm)
  have c1 : Calls Tryd.prog 11 #[.string s, .int .i64 80] w fun e w' => e = .returned (.string (s.extract 0 (min s.size 80))) ∧ w = w' := cut_any s 80 w
  have c2 : Calls Tryd.prog 11 #[.string n, .int .i64 100] w fun e w' => e = .returned (.string (n.extract 0 (min n.size 100))) ∧ w = w' := cut_any n 100 w
  have hts := cut_size s 80
  have hus := cut_size n 100
  generalize s.extract 0 (min s.size 80) = t at *
  generalize n.extract 0 (min n.size 100) = u at *
  have C1 := Lib.hid c1
  have C2 := Lib.hid c2
  clear hm c1 c2
  go_enter Tryd.func4, Tryd.ntmps4
  go_wp2_with fail
  refine C1.out.mono ?_
  rintro e w1 ⟨rfl, rfl⟩
  go_wp2_with fail
  refine C2.out.mono ?_
  rintro e w1 ⟨rfl, rfl⟩
  clear C1 C2
  go_wp2_with fail
  go_loopw [5] (fun vk wr => ∃ k : Nat, k ≤ t.size ∧ vk = .int .i64 k ∧ Hid (∀ j, j < k → namedB ((chars t).getD j 0) = true) ∧ w = wr) (fun vk _ => (t.size - intOf vk).toNat)
  case atStart => exact ⟨0, by omega, rfl, Lib.hid (fun j hj => by omega), rfl⟩
  case round =>
    obtain ⟨k, hk, rfl, HN, rfl⟩ := hrel
    by_cases hlt : k < t.size
    · have hidx := fun W => idx_at t k hlt (k : Int) rfl W
      have hkl : (k : Int) < (t.size : Int) := by omega
      obtain ⟨c, hc⟩ : ∃ c, (chars t).getD k 0 = c := ⟨_, rfl⟩
      have HC := Lib.hid hc
      rw [hc] at hidx
      have hcases : (97 ≤ c ∧ c ≤ 122) ∨ (48 ≤ c ∧ c ≤ 57) ∨ c = 43 ∨ c = 45 ∨ c = 95 ∨ c = 46 ∨ c < 43 ∨ c = 44 ∨ c = 47 ∨ (58 ≤ c ∧ c < 95) ∨ c = 96 ∨ 122 < c := by omega
      clear hc
      rcases hcases with h | h | rfl | rfl | rfl | rfl | h | rfl | rfl | h | rfl | h
      case inr.inr.inr.inr.inr.inr.inl | inr.inr.inr.inr.inr.inr.inr.inr.inr.inl | inr.inr.inr.inr.inr.inr.inr.inr.inr.inr.inr =>
        have e1 : ((c : Int) != 43) = true := by rw [bne_iff_ne]; omega
        have e2 : ((c : Int) != 45) = true := by rw [bne_iff_ne]; omega
        have e3 : ((c : Int) != 95) = true := by rw [bne_iff_ne]; omega
        have e4 : ((c : Int) != 46) = true := by rw [bne_iff_ne]; omega
        go_wp2_with fail
        refine (known_any m _ HM.out).mono ?_
        rintro e w2 ⟨rfl, b2⟩
        have B2 := Lib.hid b2
        clear b2
        go_wp2_with fail
        go_ret
        exact ⟨rfl, B2.out⟩
      all_goals first
        | (have hn : Hid (namedB ((chars t).getD k 0) = true) := Lib.hid (by rw [HC.out]; simp [namedB]; try omega)
           have hN2 : Hid (∀ j, j < k + 1 → namedB ((chars t).getD j 0) = true) := Lib.hid (fun j hj => by
             rcases Nat.lt_succ_iff_lt_or_eq.1 hj with h1 | rfl
             · exact HN.out j h1
             · exact hn.out)
           go_wp2_with fail
           go_roundw
           case measure => simp [intOf]; omega
           case rel => exact ⟨k + 1, by omega, by go_num, hN2, trivial⟩)
        | (go_wp2_with fail
           refine (known_any m _ HM.out).mono ?_
           rintro e w2 ⟨rfl, b2⟩
           have B2 := Lib.hid b2
           clear b2
           go_wp2_with fail
           go_ret
           exact ⟨rfl, B2.out⟩)
    · obtain rfl : k = t.size := by omega
      clear hlt hk
      go_wp2_with fail
      have hall : Hid (∀ c ∈ chars t, namedB c = true) := Lib.hid (fun c hc => by
        obtain ⟨j, hj, rfl⟩ := List.getElem_of_mem hc
        have := HN.out j (by rw [chars_length] at hj; exact hj)
        rw [List.getD_eq_getElem?_getD, List.getElem?_eq_getElem hj] at this
        exact this)
      clear HN
      by_cases h0 : t.size = 0
      · have hc : (compF (chars t)).2 = (0, 4) := by rw [compF, if_pos (by rw [chars_length]; exact h0)]
        have hem : t.toList.isEmpty = true := by rw [isEmpty_dec, decide_eq_true h0]
        refine (comp_err t w 0 4 (by omega) hc (by decide)).mono ?_
        rintro e w1 ⟨rfl, b1⟩
        have hm1 := Lib.hid (cell_later0 HM.out b1 h00.out)
        have B1 := Lib.hid b1
        clear b1 hc h0
        go_wp2_with fail
        refine (known_any m _ hm1.out).mono ?_
        rintro e w2 ⟨rfl, b2⟩
        have B2 := Lib.hid (B1.out.trans (b2.mono B1.out.size))
        clear b2
        go_wp2_with fail
        go_ret
        exact ⟨rfl, B2.out⟩
      · have hem : t.toList.isEmpty = false := by rw [isEmpty_dec, decide_eq_false h0]
        have hc := compF_ones (chars t) (by rw [chars_length]; exact h0) (by rw [chars_length]; omega) hall.out
        refine (comp_some t w (by omega) (by rw [hc])).mono ?_
        rintro e w1 ⟨⟨b, A, cap, rfl, hp⟩, b1⟩
        rw [hc] at hp
        have HP := Lib.hid hp
        have hm1 := Lib.hid (cell_later0 HM.out b1 h00.out)
        have B1 := Lib.hid b1
        have hmt : Hid (matchF ((chars t).map El.one) (chars t) = true) := Lib.hid ((matchF_iff _ _).2 ((Mt_ones _ _).2 rfl))
        have heq : Hid (matchF ((chars t).map El.one) (chars u) = (u.toList == t.toList)) := Lib.hid (by
          rw [Bool.eq_iff_iff, matchF_iff, Mt_ones, beq_iff_eq]
          exact ⟨fun h => by rw [chars_inj h], fun h => by rw [ByteArray.toList_eq, ByteArray.toList_eq] at h; unfold chars; rw [h]⟩)
        have hme : Hid (emptyF ((chars t).map El.one) = false) := Lib.hid (emptyF_of_match hp.ok ((Mt_ones _ _).2 rfl))
        clear b1 hc h0 hp
        go_wp2_with fail
        refine (known_any m _ hm1.out).mono ?_
        rintro e w2 ⟨rfl, b2⟩
        have B2 := Lib.hid (B1.out.trans (b2.mono B1.out.size))
        have HP2 := Lib.hid (HP.out.later b2)
        clear b2
        go_wp2_with fail
        refine (Match_any _ _ _ _ _ _ _ HP2.out (by omega)).mono ?_
        rintro e w3 ⟨rfl, b3⟩
        rw [hmt.out]
        have B3 := Lib.hid (B2.out.trans (b3.mono B2.out.size))
        have HP3 := Lib.hid (HP2.out.later b3)
        clear b3
        go_wp2_with fail
        refine (Match_any _ _ _ _ _ _ _ HP3.out (by omega)).mono ?_
        rintro e w4 ⟨rfl, b4⟩
        have B4 := Lib.hid (B3.out.trans (b4.mono B3.out.size))
        have HP4 := Lib.hid (HP3.out.later b4)
        clear b4
        rw [heq.out]
        go_wp2_with fail
        refine (Empty_any _ _ _ _ _ _ HP4.out).mono ?_
        rintro e w5 ⟨rfl, b5⟩
        rw [hme.out]
        have B5 := Lib.hid (B4.out.trans (b5.mono B4.out.size))
        clear b5
        go_wp2_with fail
        go_ret
        exact ⟨rfl, B5.out⟩

end Go.Proofs.YtgnmanmlnbidfaaDoor
