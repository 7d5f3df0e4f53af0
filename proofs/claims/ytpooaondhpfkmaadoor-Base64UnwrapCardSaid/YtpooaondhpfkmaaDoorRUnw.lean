/- Base64: the reference's Unwrap, by a walk through its text. -/
import Derived.Test.YtpooaondhpfkmaaDoorUnw
namespace Go.Proofs.YtpooaondhpfkmaaDoor
open Go.RowKit

theorem unwGo_cons (W : Nat) (out : ByteArray) (a : Nat) (x : ByteArray) (xs : List ByteArray) :
    unwGo W out a (x :: xs) = if badL W x.size xs.isEmpty = true then (ByteArray.empty, a, 3) else unwGo W (out ++ x) (a + x.size + 1) xs := rfl

theorem lines_ne (s : ByteArray) : lines s ≠ [] := by
  intro e
  have := lines_length s
  rw [e] at this
  simp at this

/-- A text without its last byte. -/
def body (s : ByteArray) : ByteArray := s.extract 0 (s.size - 1)

theorem body_size (s : ByteArray) : (body s).size = s.size - 1 := by rw [body, ByteArray.size_extract]; omega

theorem body_get (s : ByteArray) {j : Nat} (hj : j < s.size - 1) : (chars (body s)).getD j 0 = (chars s).getD j 0 := by
  unfold chars body
  rw [Lib.extract_data, List.drop_zero, Nat.sub_zero, List.getD_eq_getElem?_getD, List.getD_eq_getElem?_getD, List.getElem?_map, List.getElem?_map, List.getElem?_take_of_lt hj]

theorem body_extract (s : ByteArray) {a i : Nat} (hi : i ≤ s.size - 1) : (body s).extract a i = s.extract a i := by
  apply bytes_eq
  rw [body, Lib.extract_data, Lib.extract_data, Lib.extract_data, List.drop_zero, Nat.sub_zero, List.drop_take, List.take_take]
  congr 1
  omega

/-- The next line, and what follows it. -/
theorem next_line {s : ByteArray} {a i : Nat} (h1 : a ≤ i) (h2 : i < s.size) (hi : (chars s).getD i 0 = 10) (h : ∀ j, a ≤ j → j < i → (chars s).getD j 0 ≠ 10) :
    ∃ xs, lines (rest (body s) a) = s.extract a i :: xs ∧ (i + 1 < s.size → xs = lines (rest (body s) (i + 1))) ∧ (¬ i + 1 < s.size → xs = []) := by
  have hb := body_size s
  by_cases hlt : i + 1 < s.size
  · refine ⟨lines (rest (body s) (i + 1)), ?_, fun _ => rfl, fun h' => absurd hlt h'⟩
    rw [lines_rest_hit h1 (by omega) (by rw [body_get s (by omega)]; exact hi) (fun j h3 h4 => by rw [body_get s (by omega)]; exact h j h3 h4), body_extract s (by omega)]
  · refine ⟨[], ?_, fun h' => absurd h' hlt, fun _ => rfl⟩
    rw [lines_rest_miss (fun j h3 h4 => by rw [body_get s (by omega)]; exact h j h3 (by omega)), hb, body_extract s (Nat.le_refl _), show s.size - 1 = i by omega]

set_option maxHeartbeats 8000000 in
theorem RUnwrap_any (s : ByteArray) (w : World) (hs : s.size ≤ 600) :
    Calls Tryd.prog 6 #[.string s] w (UnwPost w (unwF s)) := by
  have hdz : decide ((349528 : Int) < (s.size : Int)) = false := decide_eq_false (by omega)
  by_cases h0 : s.size = 0
  · have E : Hid (unwF s = (ByteArray.empty, 0, 0)) := Lib.hid (by rw [unwF, if_pos h0])
    have hemp : s.toList.isEmpty = true := by rw [isEmpty_dec, decide_eq_true h0]
    generalize unwF s = R at *
    go_enter Tryd.func6, Tryd.ntmps6
    go_wp2_with fail
    go_loopw [5, 6, 7, 8] (fun vo _ _ v wr => vo = .string ⟨#[]⟩ ∧ v = .int .i64 0 ∧ wr = w) (fun _ _ _ _ _ => 0)
    case atStart => exact ⟨rfl, rfl, rfl⟩
    case round =>
      obtain ⟨rfl, rfl, rfl⟩ := hrel
      go_wp2_with fail
      go_ret3
      exact unw_of E.out (Below.refl _ _)
  · have hemp : s.toList.isEmpty = false := by rw [isEmpty_dec, decide_eq_false h0]
    have hb1 : s.size - 1 < s.size := by omega
    have hlast := chars_get s (s.size - 1) hb1
    have hi1 : ((s.size : Int) - 1) = ((s.size - 1 : Nat) : Int) := by omega
    by_cases h10 : (chars s).getD (s.size - 1) 0 = 10
    · have E : Hid (unwF s = unwGo (widthF (lines (body s))) ByteArray.empty 0 (lines (rest (body s) 0))) := Lib.hid (by rw [unwF, if_neg h0, if_neg (by simpa using h10), rest_zero]; rfl)
      have c10 : (((chars s).getD (s.size - 1) 0 : Int) != 10) = false := by rw [h10]; rfl
      have H10 := Lib.hid h10
      obtain ⟨c, hc⟩ : ∃ c, (chars s).getD (s.size - 1) 0 = c := ⟨_, rfl⟩
      rw [hc] at hlast c10
      obtain ⟨W, hW⟩ : ∃ W, Hid (widthF (lines (body s)) = W) := ⟨_, Lib.hid rfl⟩
      rw [hW.out] at E
      have HC := Lib.hid hc
      clear h10 hc
      generalize unwF s = R at *
      go_enter Tryd.func6, Tryd.ntmps6
      go_wp2_with fail
      go_loopw [5, 6, 7, 8] (fun vo vw va vi wr => ∃ (k a v : Nat) (o : ByteArray), k ≤ s.size ∧ a ≤ k ∧ o.size ≤ a ∧ v ≤ 600 ∧ vo = .string o ∧ vw = .int .i64 v ∧ va = .int .i64 a ∧ vi = .int .i64 k ∧ Hid ((a = 0 ∧ v = 0) ∨ (0 < v ∧ v = W)) ∧ Hid ((k < s.size → R = unwGo W o a (lines (rest (body s) a))) ∧ (k = s.size → R = (o, 0, 0)) ∧ (∀ j, a ≤ j → j < k → (chars s).getD j 0 ≠ 10)) ∧ wr = w) (fun _ _ _ vi _ => (s.size - intOf vi).toNat)
      case atStart => exact ⟨0, 0, 0, ByteArray.empty, by omega, by omega, by simp, by omega, rfl, rfl, rfl, rfl, Lib.hid (.inl ⟨rfl, rfl⟩), Lib.hid ⟨fun _ => E.out, fun h => by omega, fun j h1 h2 => by omega⟩, rfl⟩
      case round =>
        obtain ⟨k, a, v, o, hk, hak, hos, hv, rfl, rfl, rfl, rfl, HV, HE, rfl⟩ := hrel
        by_cases hlt : k < s.size
        · have hix := chars_get s k hlt
          by_cases hch : (chars s).getD k 0 = 10
          · obtain ⟨xs, hx1, hx2, hx3⟩ := next_line hak hlt hch HE.out.2.2
            have hR : R = unwGo W o a (s.extract a k :: xs) := (HE.out.1 hlt).trans (by rw [hx1])
            rw [unwGo_cons] at hR
            obtain ⟨n, hn⟩ : ∃ n : Nat, n = k - a := ⟨_, rfl⟩
            have hxs : (s.extract a k).size = n := by rw [ByteArray.size_extract]; omega
            have hsub : ((k : Int) - (a : Int)) = (n : Int) := by omega
            have hWn : v = 0 → W = n := by
              intro h
              rcases HV.out with ⟨ha0, _⟩ | ⟨h', _⟩
              · subst ha0
                rw [rest_zero] at hx1
                rw [← hW.out, widthF, hx1]
                exact hxs
              · omega
            have hvW : v ≠ 0 → v = W := by
              intro h
              rcases HV.out with ⟨_, h'⟩ | ⟨_, h'⟩
              · exact absurd h' h
              · exact h'
            have hc10 : (((chars s).getD k 0 : Int) != 10) = false := by rw [hch]; rfl
            have hxe : xs.isEmpty = decide (k + 1 = s.size) := by
              by_cases h : k + 1 < s.size
              · rw [hx2 h, decide_eq_false (by omega)]
                cases hl : lines (rest (body s) (k + 1)) with
                | nil => exact absurd hl (lines_ne _)
                | cons y ys => rfl
              · rw [hx3 h, decide_eq_true (by omega)]; rfl
            rw [hxs, hxe] at hR
            have HR := Lib.hid hR
            have HX := Lib.hid hx2
            have HX3 := Lib.hid hx3
            have hak1 : a + n + 1 = k + 1 := by omega
            have hkl : ((s.size : Int) - 1) = ((s.size - 1 : Nat) : Int) := by omega
            have hnx : ∀ W' : Nat, W' = W → badL W' n (decide (k + 1 = s.size)) = false → Hid ((k + 1 < s.size → R = unwGo W (o ++ s.extract a k) (k + 1) (lines (rest (body s) (k + 1)))) ∧ (k + 1 = s.size → R = (o ++ s.extract a k, 0, 0)) ∧ (∀ j, k + 1 ≤ j → j < k + 1 → (chars s).getD j 0 ≠ 10)) := by
              intro W' hW' hb
              subst hW'
              have h1 := HR.out
              rw [hb, if_neg (by simp), hak1] at h1
              exact Lib.hid ⟨fun h => by rw [h1, HX.out h], fun h => by rw [h1, HX3.out (by omega)]; rfl, fun j h1 h2 => by omega⟩
            have hos2 : (o ++ s.extract a k).size ≤ k + 1 := by rw [ByteArray.size_append, hxs]; omega
            have HNX := Lib.hid hnx
            have HOS := Lib.hid hos2
            have hcc : o.size + n ≤ 140737488355328 := by omega
            have HXS := Lib.hid hxs
            clear hR hx1 hx2 hx3 hxe hnx hos2
            generalize (chars s).getD k 0 = d at *
            by_cases hv0 : v = 0
            · have HWn := Lib.hid (hWn hv0)
              have hv0b : ((0 : Int) == 0) = true := rfl
              clear hWn hvW
              subst hv0
              have hnn : ¬ n < n := Nat.lt_irrefl n
              by_cases hE : n = 0 <;> by_cases hF : 998 < n
              all_goals first
                | (exfalso; omega)
                | (have hM : badL W n (decide (k + 1 = s.size)) = true := by
                     rw [HWn.out]
                     simp only [badL, Bool.or_eq_true, Bool.and_eq_true, decide_eq_true_eq, Bool.not_eq_true', decide_eq_false_iff_not]
                     omega
                   have EE : Hid (R = (ByteArray.empty, a, 3)) := Lib.hid (by rw [HR.out, if_pos hM])
                   have HNN := Lib.hid hn
                   have he : ((n : Int) == 0) = decide (n = 0) := by rw [Bool.eq_iff_iff]; simp
                   first
                     | (rw [decide_eq_true hE] at he)
                     | (rw [decide_eq_false hE] at he)
                   have HX := Lib.hid hE
                   clear hM hn hE
                   go_wp2_with fail
                   all_goals go_ret3
                   all_goals exact unw_of EE.out (Below.refl _ _))
                | (have hM : badL W n (decide (k + 1 = s.size)) = false := by
                     rw [HWn.out, Bool.eq_false_iff]
                     simp only [badL, ne_eq, Bool.or_eq_true, Bool.and_eq_true, decide_eq_true_eq, Bool.not_eq_true', decide_eq_false_iff_not]
                     omega
                   have EE := HNX.out W rfl hM
                   have HNN := Lib.hid hn
                   have hn1 : 0 < n := by omega
                   have he : ((n : Int) == 0) = false := by simp; omega
                   have HV2 : Hid ((k + 1 = 0 ∧ n = 0) ∨ (0 < n ∧ n = W)) := Lib.hid (.inr ⟨hn1, HWn.out.symm⟩)
                   have HX := Lib.hid hE
                   clear hM hn hE
                   go_wp2_with fail
                   go_roundw
                   case measure => simp [intOf]; omega
                   case rel => exact ⟨k + 1, k + 1, n, o ++ s.extract a k, by omega, by omega, HOS.out, by omega, rfl, rfl, by go_num, by go_num, HV2, EE, trivial⟩)
            · have hvW' := Lib.hid (hvW hv0)
              have hv0b : ((v : Int) == 0) = false := by simp; omega
              clear hWn hvW
              by_cases hE : n = 0
              · have hM : badL W n (decide (k + 1 = s.size)) = true := by
                  rw [← hvW'.out]
                  simp only [badL, Bool.or_eq_true, Bool.and_eq_true, decide_eq_true_eq, Bool.not_eq_true', decide_eq_false_iff_not]
                  omega
                have EE : Hid (R = (ByteArray.empty, a, 3)) := Lib.hid (by rw [HR.out, if_pos hM])
                have HNN := Lib.hid hn
                have HX := Lib.hid hE
                have he : ((n : Int) == 0) = true := by simp; omega
                clear hM hn hE
                go_wp2_with fail
                go_ret3
                exact unw_of EE.out (Below.refl _ _)
              · have he : ((n : Int) == 0) = false := by simp; omega
                by_cases hF : 998 < n
                · exfalso; omega
                · by_cases hG : v < n
                  · have hM : badL W n (decide (k + 1 = s.size)) = true := by
                      rw [← hvW'.out]
                      simp only [badL, Bool.or_eq_true, Bool.and_eq_true, decide_eq_true_eq, Bool.not_eq_true', decide_eq_false_iff_not]
                      omega
                    have EE : Hid (R = (ByteArray.empty, a, 3)) := Lib.hid (by rw [HR.out, if_pos hM])
                    have HNN := Lib.hid hn
                    have HX := Lib.hid hE
                    clear hM hn hE
                    go_wp2_with fail
                    go_ret3
                    exact unw_of EE.out (Below.refl _ _)
                  · by_cases hP : n < v
                    · by_cases hQ : k + 1 = s.size
                      · have hM : badL W n (decide (k + 1 = s.size)) = false := by
                          rw [← hvW'.out, Bool.eq_false_iff]
                          simp only [badL, ne_eq, Bool.or_eq_true, Bool.and_eq_true, decide_eq_true_eq, Bool.not_eq_true', decide_eq_false_iff_not]
                          omega
                        have EE := HNX.out W rfl hM
                        have HNN := Lib.hid hn
                        have HV2 : Hid ((k + 1 = 0 ∧ v = 0) ∨ (0 < v ∧ v = W)) := Lib.hid (.inr ⟨by omega, hvW'.out⟩)
                        have HX := Lib.hid hE
                        have hq : ((k : Int) != ((s.size - 1 : Nat) : Int)) = false := by simp; omega
                        have HQ := Lib.hid hQ
                        clear hQ
                        clear hM hn hE
                        go_wp2_with fail
                        go_roundw
                        case measure => simp [intOf]; omega
                        case rel => exact ⟨k + 1, k + 1, v, o ++ s.extract a k, by have := HNN.out; omega, by omega, HOS.out, hv, rfl, rfl, by go_num, by go_num, HV2, EE, trivial⟩
                      · have hM : badL W n (decide (k + 1 = s.size)) = true := by
                          rw [← hvW'.out]
                          simp only [badL, Bool.or_eq_true, Bool.and_eq_true, decide_eq_true_eq, Bool.not_eq_true', decide_eq_false_iff_not]
                          omega
                        have EE : Hid (R = (ByteArray.empty, a, 3)) := Lib.hid (by rw [HR.out, if_pos hM])
                        have HNN := Lib.hid hn
                        have HX := Lib.hid hE
                        have hq : ((k : Int) != ((s.size - 1 : Nat) : Int)) = true := by simp; omega
                        have HQ := Lib.hid hQ
                        clear hQ
                        clear hM hn hE
                        go_wp2_with fail
                        go_ret3
                        exact unw_of EE.out (Below.refl _ _)
                    · have hM : badL W n (decide (k + 1 = s.size)) = false := by
                        rw [← hvW'.out, Bool.eq_false_iff]
                        simp only [badL, ne_eq, Bool.or_eq_true, Bool.and_eq_true, decide_eq_true_eq, Bool.not_eq_true', decide_eq_false_iff_not]
                        omega
                      have EE := HNX.out W rfl hM
                      have HNN := Lib.hid hn
                      have HV2 : Hid ((k + 1 = 0 ∧ v = 0) ∨ (0 < v ∧ v = W)) := Lib.hid (.inr ⟨by omega, hvW'.out⟩)
                      have HX := Lib.hid hE
                      clear hM hn hE
                      go_wp2_with fail
                      go_roundw
                      case measure => simp [intOf]; omega
                      case rel => exact ⟨k + 1, k + 1, v, o ++ s.extract a k, by have := HNN.out; omega, by omega, HOS.out, hv, rfl, rfl, by go_num, by go_num, HV2, EE, trivial⟩
          · have c33 : (((chars s).getD k 0 : Int) != 10) = true := by simp only [bne_iff_ne, ne_eq]; omega
            have hk1 : k + 1 < s.size := by
              rcases Nat.lt_or_ge (k + 1) s.size with h | h
              · exact h
              · exact absurd (by rw [show k = s.size - 1 by omega]; exact H10.out) hch
            have HE2 : Hid ((k + 1 < s.size → R = unwGo W o a (lines (rest (body s) a))) ∧ (k + 1 = s.size → R = (o, 0, 0)) ∧ (∀ j, a ≤ j → j < k + 1 → (chars s).getD j 0 ≠ 10)) :=
              Lib.hid ⟨fun _ => HE.out.1 hlt, fun h => by omega, fun j h1 h2 => by
                rcases Nat.lt_succ_iff_lt_or_eq.1 h2 with h' | rfl
                · exact HE.out.2.2 j h1 h'
                · exact hch⟩
            clear hch
            generalize (chars s).getD k 0 = d at *
            go_wp2_with fail
            go_roundw
            case measure => simp [intOf]; omega
            case rel => exact ⟨k + 1, a, v, o, by omega, by omega, by omega, hv, rfl, rfl, rfl, by go_num, HV, HE2, trivial⟩
        · have EE : Hid (R = (o, 0, 0)) := Lib.hid (HE.out.2.1 (by omega))
          have d1 : decide ((174764 : Int) < (o.size : Int)) = false := decide_eq_false (by omega)
          go_wp2_with fail
          go_ret3
          exact unw_of EE.out (Below.refl _ _)
    · have E : Hid (unwF s = (ByteArray.empty, s.size, 4)) := Lib.hid (by rw [unwF, if_neg h0, if_pos h10])
      have c10 : (((chars s).getD (s.size - 1) 0 : Int) != 10) = true := by simp only [bne_iff_ne, ne_eq]; omega
      generalize (chars s).getD (s.size - 1) 0 = c at *
      clear h0 h10
      go_enter Tryd.func6, Tryd.ntmps6
      go_wp2_with fail
      go_ret3
      exact unw_of E.out (Below.refl _ _)

end Go.Proofs.YtpooaondhpfkmaaDoor
