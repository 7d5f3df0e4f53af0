/- Route: Site and the reference's Site, by walks through their text. -/
import Derived.Test.YthkmjelibdgbcaaDoorSite
namespace Go.Proofs.YthkmjelibdgbcaaDoor
open Go.RowKit

theorem chars_nil {s : ByteArray} (h : s.size = 0) : chars s = [] := List.eq_nil_of_length_eq_zero (by rw [chars_length]; exact h)

theorem isEmpty_no {s : ByteArray} (h : s.size ≠ 0) : s.toList.isEmpty = false := by
  rw [ByteArray.toList_eq]
  cases e : s.data.toList with
  | nil =>
    have := congrArg List.length e
    exact absurd (by simpa using this) h
  | cons a l => rfl

theorem first_hit {l : List Nat} {k n : Nat} (hlt : k < n) (H : Hid (∀ j, j < k → okB (l.getD j 0) = true)) : Hid (okB (l.getD k 0) = false → firstI (fun i => !okB (l.getD i 0)) n = some k) :=
  Lib.hid (fun h => firstI_some hlt (by simp only [h, Bool.not_false]) (fun j hj => by simp only [H.out j hj, Bool.not_true]))

theorem first_on {l : List Nat} {k : Nat} (H : Hid (∀ j, j < k → okB (l.getD j 0) = true)) : Hid (okB (l.getD k 0) = true → ∀ j, j < k + 1 → okB (l.getD j 0) = true) :=
  Lib.hid (fun h j hj => by
    rcases Nat.lt_succ_iff_lt_or_eq.1 hj with h' | rfl
    · exact H.out j h'
    · exact h)

theorem first_no {l : List Nat} {n : Nat} (H : Hid (∀ j, j < n → okB (l.getD j 0) = true)) : firstI (fun i => !okB (l.getD i 0)) n = none :=
  firstI_none (fun j hj => by simp only [H.out j hj, Bool.not_true])

theorem mis_on {l : List Nat} {k : Nat} (H : Hid (∀ j, j < k → misB l j = false)) (h : misB l k = false) : Hid (∀ j, j < k + 1 → misB l j = false) :=
  Lib.hid (fun j hj => by
    rcases Nat.lt_succ_iff_lt_or_eq.1 hj with h' | rfl
    · exact H.out j h'
    · exact h)

theorem site_of {s : ByteArray} (h0 : s.size ≠ 0) (h1 : ¬ 30 < s.size) : siteL (chars s) = match firstI (fun i => !okB ((chars s).getD i 0)) s.size with
        | some i => (i, 6)
        | none => match firstI (misB (chars s)) s.size with
          | some i => (i, 12)
          | none => (0, 0) := by
  have hn : chars s ≠ [] := fun e => h0 (by rw [← chars_length, e]; rfl)
  rw [siteL, if_neg hn, if_neg (by rw [chars_length]; exact h1), chars_length]
  rfl

theorem ok_or (b : Bool) : b = true ∨ b = false := by cases b <;> simp

/-- The seven kinds of bytes. -/
theorem kinds (c : Nat) :
    (okB c = true ∧ decide ((97 : Int) ≤ (c : Int)) = true ∧ decide ((c : Int) ≤ 122) = true) ∨
    (okB c = false ∧ decide ((97 : Int) ≤ (c : Int)) = true ∧ decide ((c : Int) ≤ 122) = false ∧ decide ((48 : Int) ≤ (c : Int)) = true ∧ decide ((c : Int) ≤ 57) = false ∧ ((c : Int) == 45) = false ∧ ((c : Int) == 46) = false) ∨
    (okB c = true ∧ decide ((97 : Int) ≤ (c : Int)) = false ∧ decide ((48 : Int) ≤ (c : Int)) = true ∧ decide ((c : Int) ≤ 57) = true) ∨
    (okB c = false ∧ decide ((97 : Int) ≤ (c : Int)) = false ∧ decide ((48 : Int) ≤ (c : Int)) = true ∧ decide ((c : Int) ≤ 57) = false ∧ ((c : Int) == 45) = false ∧ ((c : Int) == 46) = false) ∨
    (okB c = true ∧ decide ((97 : Int) ≤ (c : Int)) = false ∧ decide ((48 : Int) ≤ (c : Int)) = false ∧ ((c : Int) == 45) = true) ∨
    (okB c = true ∧ decide ((97 : Int) ≤ (c : Int)) = false ∧ decide ((48 : Int) ≤ (c : Int)) = false ∧ ((c : Int) == 45) = false ∧ ((c : Int) == 46) = true) ∨
    (okB c = false ∧ decide ((97 : Int) ≤ (c : Int)) = false ∧ decide ((48 : Int) ≤ (c : Int)) = false ∧ ((c : Int) == 45) = false ∧ ((c : Int) == 46) = false) := by
  have e : okB c = decide ((97 ≤ c ∧ c ≤ 122) ∨ (48 ≤ c ∧ c ≤ 57) ∨ c = 45 ∨ c = 46) := by
    rw [Bool.eq_iff_iff]
    simp only [okB, lo, dg, Bool.or_eq_true, Bool.and_eq_true, decide_eq_true_eq]
    omega
  rw [e]
  simp only [decide_eq_true_eq, decide_eq_false_iff_not, beq_iff_eq, beq_eq_false_iff_ne, ne_eq]
  omega

theorem misB_at {l : List Nat} {k c p n : Nat} {b0 bL lc c45 c46 p46 : Bool} (hn : l.length = n) (hc : l.getD k 0 = c) (hp : l.getD (k - 1) 0 = p) (h1 : ((k : Int) == 0) = b0) (h2 : ((k : Int) == (n : Int) - 1) = bL)
    (h3 : lo c = lc) (h4 : ((c : Int) == 45) = c45) (h5 : ((c : Int) == 46) = c46) (h6 : ((p : Int) == 46) = p46) : misB l k = (if b0 then !lc else ((c46 && p46) || (bL && (c45 || c46)))) := by
  have e1 : decide (c = 46) = c46 := by rw [← h5, Bool.eq_iff_iff]; simp; omega
  have e2 : decide (c = 45) = c45 := by rw [← h4, Bool.eq_iff_iff]; simp; omega
  have e3 : decide (p = 46) = p46 := by rw [← h6, Bool.eq_iff_iff]; simp; omega
  have e4 : decide (k + 1 = l.length) = bL := by rw [← h2, hn, Bool.eq_iff_iff]; simp; omega
  unfold misB
  by_cases h0 : k = 0
  · have : b0 = true := by rw [← h1, h0]; rfl
    subst h0
    rw [this, if_pos rfl, if_pos rfl, hc, h3]
  · have : b0 = false := by rw [← h1]; simp; omega
    rw [this, if_neg h0, if_neg (by decide), hc, hp, e1, e2, e3, e4]

theorem kinds2 (c : Nat) :
    (lo c = true ∧ decide ((97 : Int) ≤ (c : Int)) = true ∧ decide ((c : Int) ≤ 122) = true ∧ ((c : Int) == 45) = false ∧ ((c : Int) == 46) = false) ∨
    (lo c = false ∧ decide ((97 : Int) ≤ (c : Int)) = true ∧ decide ((c : Int) ≤ 122) = false ∧ ((c : Int) == 45) = false ∧ ((c : Int) == 46) = false) ∨
    (lo c = false ∧ decide ((97 : Int) ≤ (c : Int)) = false ∧ True ∧ ((c : Int) == 45) = true ∧ ((c : Int) == 46) = false) ∨
    (lo c = false ∧ decide ((97 : Int) ≤ (c : Int)) = false ∧ True ∧ ((c : Int) == 45) = false ∧ ((c : Int) == 46) = true) ∨
    (lo c = false ∧ decide ((97 : Int) ≤ (c : Int)) = false ∧ True ∧ ((c : Int) == 45) = false ∧ ((c : Int) == 46) = false) := by
  have e : lo c = decide (97 ≤ c ∧ c ≤ 122) := by
    rw [Bool.eq_iff_iff]
    simp only [lo, Bool.and_eq_true, decide_eq_true_eq]
  rw [e]
  simp only [decide_eq_true_eq, decide_eq_false_iff_not, beq_iff_eq, beq_eq_false_iff_ne, ne_eq, true_and]
  omega

theorem Site_any (s : ByteArray) (w : World) : Calls Tryd.prog 28 #[.string s] w fun e w' => e = .returned (.tuple #[.int .i64 ((siteL (chars s)).1 : Nat), .int .i64 ((siteL (chars s)).2 : Nat)]) ∧ w = w' := by
  by_cases h0 : s.size = 0
  · have E : Hid (siteL (chars s) = (0, 4)) := Lib.hid (by rw [chars_nil h0]; rfl)
    obtain rfl : s = ByteArray.empty := ByteArray.ext (Array.eq_empty_of_size_eq_zero h0)
    clear h0
    go_enter Tryd.func28, Tryd.ntmps28
    go_wp2_with fail
    go_ret2
    exact ⟨by rw [E.out]; rfl, rfl⟩
  · have hne := isEmpty_no h0
    by_cases h1 : 30 < s.size
    · have b1 : decide ((30 : Int) < (s.size : Int)) = true := decide_eq_true (by omega)
      have E : Hid (siteL (chars s) = (30, 5)) := Lib.hid (by rw [siteL, if_neg (fun e => h0 (by rw [← chars_length, e]; rfl)), if_pos (by rw [chars_length]; exact h1)])
      clear h0
      go_enter Tryd.func28, Tryd.ntmps28
      go_wp2_with fail
      go_ret2
      exact ⟨by rw [E.out]; rfl, rfl⟩
    · have b1 : decide ((30 : Int) < (s.size : Int)) = false := decide_eq_false (by omega)
      have hs : s.size ≤ 30 := by omega
      have E := Lib.hid (site_of h0 h1)
      clear h0 h1
      go_enter Tryd.func28, Tryd.ntmps28
      go_wp2_with fail
      go_loopw [15] (fun v wr => ∃ k : Nat, k ≤ s.size ∧ v = .int .i64 k ∧ Hid (∀ j, j < k → okB ((chars s).getD j 0) = true) ∧ wr = w) (fun v _ => (s.size - intOf v).toNat)
      case atStart => exact ⟨0, by omega, rfl, Lib.hid (fun j hj => by omega), rfl⟩
      case round =>
        obtain ⟨k, hk, rfl, HK, rfl⟩ := hrel
        by_cases hlt : k < s.size
        · have hix := chars_get s k hlt
          have F := first_hit hlt HK
          have K2 := first_on HK
          generalize (chars s).getD k 0 = c at *
          rcases ok_or (okB c) with bk | bk
          · go_wp2_with fail
            refine (permitted_any _ _).mono ?_
            rintro e w1 ⟨rfl, rfl⟩
            go_wp2_with fail
            go_roundw
            case rel => exact ⟨k + 1, by omega, by simp, Lib.hid (K2.out bk), trivial⟩
            case measure => simp [intOf]; omega
          · go_wp2_with fail
            refine (permitted_any _ _).mono ?_
            rintro e w1 ⟨rfl, rfl⟩
            go_wp2_with fail
            go_ret2
            exact ⟨by rw [E.out, F.out bk]; rfl, rfl⟩
        · obtain rfl : k = s.size := by omega
          clear hk hlt
          have F := Lib.hid (first_no HK)
          go_wp2_with fail
          go_loopw [27] (fun v wz => ∃ k : Nat, k ≤ s.size ∧ v = .int .i64 k ∧ Hid (∀ j, j < k → misB (chars s) j = false) ∧ wz = wr) (fun v _ => (s.size - intOf v).toNat)
          case atStart => exact ⟨0, by omega, rfl, Lib.hid (fun j hj => by omega), rfl⟩
          case round =>
            obtain ⟨k, hk, rfl, HM, rfl⟩ := hrel
            by_cases hlt : k < s.size
            · rcases ok_or (misB (chars s) k) with bk | bk
              · have G : Hid (firstI (misB (chars s)) s.size = some k) := Lib.hid (firstI_some hlt bk HM.out)
                go_wp2_with fail
                refine (misplaced_any s k _ hs hlt).mono ?_
                rintro e w1 ⟨rfl, rfl⟩
                go_wp2_with fail
                go_ret2
                exact ⟨by rw [E.out, F.out]; simp only [G.out]; rfl, rfl⟩
              · have HM2 := mis_on HM bk
                go_wp2_with fail
                refine (misplaced_any s k _ hs hlt).mono ?_
                rintro e w1 ⟨rfl, rfl⟩
                go_wp2_with fail
                go_roundw
                case rel => exact ⟨k + 1, by omega, by simp, HM2, trivial⟩
                case measure => simp [intOf]; omega
            · obtain rfl : k = s.size := by omega
              clear hk hlt
              have G : Hid (firstI (misB (chars s)) s.size = none) := Lib.hid (firstI_none HM.out)
              go_wp2_with fail
              go_ret2
              exact ⟨by rw [E.out, F.out]; simp only [G.out]; rfl, rfl⟩

set_option maxHeartbeats 8000000 in
theorem RSite_any (s : ByteArray) (w : World) : Calls Tryd.prog 29 #[.string s] w fun e w' => e = .returned (.tuple #[.int .i64 ((siteL (chars s)).1 : Nat), .int .i64 ((siteL (chars s)).2 : Nat)]) ∧ w = w' := by
  by_cases h0 : s.size = 0
  · have E : Hid (siteL (chars s) = (0, 4)) := Lib.hid (by rw [chars_nil h0]; rfl)
    obtain rfl : s = ByteArray.empty := ByteArray.ext (Array.eq_empty_of_size_eq_zero h0)
    clear h0
    go_enter Tryd.func29, Tryd.ntmps29
    go_wp2_with fail
    go_ret2
    exact ⟨by rw [E.out]; rfl, rfl⟩
  · have hne := isEmpty_no h0
    by_cases h1 : 30 < s.size
    · have b1 : decide ((30 : Int) < (s.size : Int)) = true := decide_eq_true (by omega)
      have E : Hid (siteL (chars s) = (30, 5)) := Lib.hid (by rw [siteL, if_neg (fun e => h0 (by rw [← chars_length, e]; rfl)), if_pos (by rw [chars_length]; exact h1)])
      clear h0
      go_enter Tryd.func29, Tryd.ntmps29
      go_wp2_with fail
      go_ret2
      exact ⟨by rw [E.out]; rfl, rfl⟩
    · have b1 : decide ((30 : Int) < (s.size : Int)) = false := decide_eq_false (by omega)
      have hs : s.size ≤ 30 := by omega
      have E := Lib.hid (site_of h0 h1)
      clear h0 h1
      go_enter Tryd.func29, Tryd.ntmps29
      go_wp2_with fail
      go_loopw [4] (fun v wr => ∃ k : Nat, k ≤ s.size ∧ v = .int .i64 k ∧ Hid (∀ j, j < k → okB ((chars s).getD j 0) = true) ∧ wr = w) (fun v _ => (s.size - intOf v).toNat)
      case atStart => exact ⟨0, by omega, rfl, Lib.hid (fun j hj => by omega), rfl⟩
      case round =>
        obtain ⟨k, hk, rfl, HK, rfl⟩ := hrel
        by_cases hlt : k < s.size
        · have hix := chars_get s k hlt
          have F := first_hit hlt HK
          have K2 := first_on HK
          generalize (chars s).getD k 0 = c at *
          rcases kinds c with ⟨bk, d1, d2⟩ | ⟨bk, d1, d2, d3, d4, d5, d6⟩ | ⟨bk, d1, d2, d3⟩ | ⟨bk, d1, d2, d3, d4, d5⟩ | ⟨bk, d1, d2, d3⟩ | ⟨bk, d1, d2, d3, d4⟩ | ⟨bk, d1, d2, d3, d4⟩
          · go_wp2_with fail
            go_roundw
            case rel => exact ⟨k + 1, by omega, by simp, Lib.hid (K2.out bk), trivial⟩
            case measure => simp [intOf]; omega
          · go_wp2_with fail
            go_ret2
            exact ⟨by rw [E.out, F.out bk]; rfl, rfl⟩
          · go_wp2_with fail
            go_roundw
            case rel => exact ⟨k + 1, by omega, by simp, Lib.hid (K2.out bk), trivial⟩
            case measure => simp [intOf]; omega
          · go_wp2_with fail
            go_ret2
            exact ⟨by rw [E.out, F.out bk]; rfl, rfl⟩
          · go_wp2_with fail
            go_roundw
            case rel => exact ⟨k + 1, by omega, by simp, Lib.hid (K2.out bk), trivial⟩
            case measure => simp [intOf]; omega
          · go_wp2_with fail
            go_roundw
            case rel => exact ⟨k + 1, by omega, by simp, Lib.hid (K2.out bk), trivial⟩
            case measure => simp [intOf]; omega
          · go_wp2_with fail
            go_ret2
            exact ⟨by rw [E.out, F.out bk]; rfl, rfl⟩
        · obtain rfl : k = s.size := by omega
          clear hk hlt
          have F := Lib.hid (first_no HK)
          go_wp2_with fail
          go_loopw [6] (fun v wz => ∃ k : Nat, k ≤ s.size ∧ v = .int .i64 k ∧ Hid (∀ j, j < k → misB (chars s) j = false) ∧ wz = wr) (fun v _ => (s.size - intOf v).toNat)
          case atStart => exact ⟨0, by omega, rfl, Lib.hid (fun j hj => by omega), rfl⟩
          case round =>
            obtain ⟨k, hk, rfl, HM, rfl⟩ := hrel
            by_cases hlt : k < s.size
            · have hix := chars_get s k hlt
              have hk1 : k - 1 < s.size := Nat.lt_of_le_of_lt (Nat.sub_le _ _) hlt
              have hip := chars_get s (k - 1) hk1
              have hMA := fun (b0 bL lc c45 c46 p46 : Bool) => @misB_at (chars s) k _ _ _ b0 bL lc c45 c46 p46 (chars_length s) rfl rfl
              generalize (chars s).getD k 0 = c at *
              generalize (chars s).getD (k - 1) 0 = p at *
              by_cases h0 : k = 0
              · have b0 : ((k : Int) == 0) = true := by simp [h0]
                have bg : decide ((0 : Int) < (k : Int)) = false := by simp [h0]
                clear hip hk1 h0
                rcases ok_or ((k : Int) == (s.size : Int) - 1) with bL | bL <;> rcases ok_or ((p : Int) == 46) with p46 | p46 <;>
                rcases kinds2 c with ⟨bk, d1, d2, d3, d4⟩ | ⟨bk, d1, d2, d3, d4⟩ | ⟨bk, d1, d2, d3, d4⟩ | ⟨bk, d1, d2, d3, d4⟩ | ⟨bk, d1, d2, d3, d4⟩
                all_goals first
                  | (have hM : misB (chars s) k = true := hMA _ _ _ _ _ _ b0 bL bk d3 d4 p46
                     have G : Hid (firstI (misB (chars s)) s.size = some k) := Lib.hid (firstI_some hlt hM HM.out)
                     clear hMA hM
                     go_wp2_with fail
                     go_ret2
                     exact ⟨by rw [E.out, F.out]; simp only [G.out]; rfl, rfl⟩)
                  | (have hM : misB (chars s) k = false := hMA _ _ _ _ _ _ b0 bL bk d3 d4 p46
                     have HM2 := mis_on HM hM
                     clear hMA hM
                     go_wp2_with fail
                     all_goals go_roundw
                     all_goals first
                       | exact ⟨k + 1, by omega, by simp, HM2, trivial⟩
                       | (simp [intOf]; omega))
              · have b0 : ((k : Int) == 0) = false := by simp; omega
                have bg : decide ((0 : Int) < (k : Int)) = true := by simp; omega
                have hkk : ((k : Int) - 1) = ((k - 1 : Nat) : Int) := by omega
                have H0 := Lib.hid h0
                clear h0
                rcases ok_or ((k : Int) == (s.size : Int) - 1) with bL | bL <;> rcases ok_or ((p : Int) == 46) with p46 | p46 <;>
                rcases kinds2 c with ⟨bk, d1, d2, d3, d4⟩ | ⟨bk, d1, d2, d3, d4⟩ | ⟨bk, d1, d2, d3, d4⟩ | ⟨bk, d1, d2, d3, d4⟩ | ⟨bk, d1, d2, d3, d4⟩
                all_goals first
                  | (have hM : misB (chars s) k = true := hMA _ _ _ _ _ _ b0 bL bk d3 d4 p46
                     have G : Hid (firstI (misB (chars s)) s.size = some k) := Lib.hid (firstI_some hlt hM HM.out)
                     clear hMA hM
                     go_wp2_with fail
                     go_ret2
                     exact ⟨by rw [E.out, F.out]; simp only [G.out]; rfl, rfl⟩)
                  | (have hM : misB (chars s) k = false := hMA _ _ _ _ _ _ b0 bL bk d3 d4 p46
                     have HM2 := mis_on HM hM
                     clear hMA hM
                     go_wp2_with fail
                     all_goals go_roundw
                     all_goals first
                       | exact ⟨k + 1, by omega, by simp, HM2, trivial⟩
                       | (simp [intOf]; omega))
            · obtain rfl : k = s.size := by omega
              clear hk hlt
              have G : Hid (firstI (misB (chars s)) s.size = none) := Lib.hid (firstI_none HM.out)
              go_wp2_with fail
              go_ret2
              exact ⟨by rw [E.out, F.out]; simp only [G.out]; rfl, rfl⟩

end Go.Proofs.YthkmjelibdgbcaaDoor
