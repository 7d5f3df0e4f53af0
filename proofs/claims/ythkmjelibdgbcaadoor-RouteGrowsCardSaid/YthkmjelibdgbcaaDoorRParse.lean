/- Route: the reference's Parse, by a walk through its text. -/
import Derived.Test.YthkmjelibdgbcaaDoorParse
namespace Go.Proofs.YthkmjelibdgbcaaDoor
open Go.RowKit

theorem parseGo_cons (out : List ByteArray) (a : Nat) (x : ByteArray) (xs : List ByteArray) :
    parseGo out a (x :: xs) = if out.length = 50 then ([], a, 9) else if (siteL (chars x)).2 ≠ 0 then ([], a + (siteL (chars x)).1, (siteL (chars x)).2) else parseGo (out ++ [x]) (a + x.size + 1) xs := rfl

set_option maxHeartbeats 1000000 in
theorem RParse_any (s : ByteArray) (w : World) (hs : s.size ≤ 1000000) :
    Calls Tryd.prog 11 #[.string s] w (Made3 w (parseF s)) := by
  by_cases h0 : s.size = 0
  · have E : Hid (parseF s = ([], 0, 0)) := Lib.hid (by rw [parseF, if_pos h0])
    obtain rfl : s = ByteArray.empty := ByteArray.ext (Array.eq_empty_of_size_eq_zero h0)
    clear h0
    rw [E.out]
    go_enter Tryd.func11, Tryd.ntmps11
    go_wp2_with fail
    go_ret3
    exact ⟨none, 0, rfl, OwnS.nil _ _, Below.refl _ _⟩
  · have hne := isEmpty_no h0
    have E : Hid (parseF s = parseGo [] 0 (names (rest s 0))) := Lib.hid (by rw [parseF, if_neg h0, rest_zero])
    clear h0
    generalize parseF s = R at *
    go_enter Tryd.func11, Tryd.ntmps11
    go_wp2_with fail
    go_loopw [5, 6, 7] (fun vo va vi wr => ∃ (k a : Nat) (out : List ByteArray), k ≤ s.size + 1 ∧ a ≤ k ∧ out.length ≤ 50 ∧ vi = .int .i64 k ∧ va = .int .i64 a ∧ (∃ A' cap', vo = .slice A' out.length cap' ∧ Hid (OwnS wr w.heap.size (.slice A' out.length cap') out)) ∧ Hid ((k ≤ s.size → R = parseGo out a (names (rest s a))) ∧ (k = s.size + 1 → R = (out, 0, 0)) ∧ (∀ j, a ≤ j → j < k → (chars s).getD j 0 ≠ 33)) ∧ Below w.heap.size w wr) (fun _ _ vi _ => (s.size + 1 - intOf vi).toNat)
    case atStart => exact ⟨0, 0, [], by omega, by omega, by simp, rfl, rfl, ⟨none, 0, rfl, Lib.hid (OwnS.nil _ _)⟩, Lib.hid ⟨fun _ => E.out, fun h => by omega, fun j h1 h2 => by omega⟩, Below.refl _ _⟩
    case round =>
      obtain ⟨k, a, out, hk, hak, hol, rfl, rfl, ⟨A', cap', rfl, HO⟩, HE, HB⟩ := hrel
      by_cases hle : k ≤ s.size
      · have dle : decide ((k : Int) ≤ (s.size : Int)) = true := decide_eq_true (by omega)
        by_cases hgo : k < s.size ∧ (chars s).getD k 0 ≠ 33
        · obtain ⟨hlt, h33⟩ := hgo
          have hix := chars_get s k hlt
          have dlt : decide ((k : Int) < (s.size : Int)) = true := decide_eq_true (by omega)
          have c33 : (((chars s).getD k 0 : Int) != 33) = true := by simp only [bne_iff_ne, ne_eq]; omega
          have HE2 : Hid ((k + 1 ≤ s.size → R = parseGo out a (names (rest s a))) ∧ (k + 1 = s.size + 1 → R = (out, 0, 0)) ∧ (∀ j, a ≤ j → j < k + 1 → (chars s).getD j 0 ≠ 33)) :=
            Lib.hid ⟨fun _ => HE.out.1 hle, fun h => by omega, fun j h1 h2 => by
              rcases Nat.lt_succ_iff_lt_or_eq.1 h2 with h' | rfl
              · exact HE.out.2.2 j h1 h'
              · exact h33⟩
          clear h33
          generalize (chars s).getD k 0 = c at *
          go_wp2_with fail
          go_roundw
          case measure => simp [intOf]; omega
          case rel => exact ⟨k + 1, a, out, by omega, by omega, hol, by go_num, rfl, ⟨A', cap', rfl, HO⟩, HE2, HB⟩
        · have hnext : ∃ xs, Hid (R = parseGo out a (s.extract a k :: xs)) ∧ Hid (∀ o : List ByteArray, R = parseGo o (k + 1) xs → (k + 1 ≤ s.size → R = parseGo o (k + 1) (names (rest s (k + 1)))) ∧ (k + 1 = s.size + 1 → R = (o, 0, 0)) ∧ (∀ j, k + 1 ≤ j → j < k + 1 → (chars s).getD j 0 ≠ 33)) := by
            by_cases hlt : k < s.size
            · have h33 : (chars s).getD k 0 = 33 := by
                rcases Nat.decEq ((chars s).getD k 0) 33 with h | h
                · exact absurd ⟨hlt, h⟩ hgo
                · exact h
              refine ⟨names (rest s (k + 1)), Lib.hid ?_, Lib.hid fun o h => ⟨fun _ => h, fun h' => by omega, fun j h1 h2 => by omega⟩⟩
              rw [HE.out.1 hle, names_rest_hit hak hlt h33 HE.out.2.2]
            · have hkz : k = s.size := by omega
              refine ⟨[], Lib.hid ?_, Lib.hid fun o h => ⟨fun h' => by omega, fun _ => h, fun j h1 h2 => by omega⟩⟩
              rw [HE.out.1 hle, names_rest_miss (fun j h1 h2 => HE.out.2.2 j h1 (by omega)), ← hkz]
          obtain ⟨xs, hR, hN⟩ := hnext
          have hxs : (s.extract a k).size = k - a := by rw [ByteArray.size_extract]; omega
          have hst := hR.out
          rw [parseGo_cons] at hst
          have htest : (decide ((k : Int) < (s.size : Int)) = false) ∨ (∃ (h : k < s.size) (c : Nat), decide ((k : Int) < (s.size : Int)) = true ∧ (s[k]'h).toNat = c ∧ ((c : Int) != 33) = false) := by
            by_cases hlt : k < s.size
            · refine .inr ⟨hlt, _, decide_eq_true (by omega), rfl, ?_⟩
              have h33 : (chars s).getD k 0 = 33 := by
                rcases Nat.decEq ((chars s).getD k 0) 33 with h | h
                · exact absurd ⟨hlt, h⟩ hgo
                · exact h
              rw [chars_get s k hlt, h33]; rfl
            · exact .inl (decide_eq_false (by omega))
          clear hgo
          rcases htest with dlt | ⟨hlt, c, dlt, hix, c33⟩
          · have hnl : ¬ k < s.size := by have := of_decide_eq_false dlt; omega
            by_cases h50 : out.length = 50
            · have d50 : ((out.length : Int) == 50) = true := by simp [h50]
              have EE : Hid (R = ([], a, 9)) := Lib.hid (by rw [hst, if_pos h50])
              clear hst h50 hxs
              go_wp2_with fail
              go_ret3
              exact made3_of ⟨none, 0, rfl, OwnS.nil _ _, HB⟩ EE.out
            · have d50 : ((out.length : Int) == 50) = false := by simp; omega
              rw [if_neg h50] at hst
              have hpl := siteL_le (chars (s.extract a k))
              by_cases he : (siteL (chars (s.extract a k))).2 = 0
              · have b0 := nz_no he
                have hx30 := siteL_size he
                rw [if_neg (by simpa using he)] at hst
                have hak1 : a + (s.extract a k).size + 1 = k + 1 := by omega
                rw [hak1] at hst
                have HN := Lib.hid (hN.out _ hst)
                have hosz : out.length < 50 := by omega
                have XS := Lib.hid hxs
                clear hst he h50 hxs hx30 hak1
                have hsz := HB.size
                go_wp2_with fail
                refine (RSite_any _ _).mono ?_
                rintro e w2 ⟨rfl, rfl⟩
                generalize siteL (chars (s.extract a k)) = st at *
                obtain ⟨o3, ho3⟩ : ∃ o3, Hid (out ++ [s.extract a k] = o3) := ⟨_, Lib.hid rfl⟩
                have HO3L : Hid (o3.length ≤ 50) := Lib.hid (by rw [← ho3.out]; simp; omega)
                rw [ho3.out] at HN
                go_wp2_with (at_builtin; refine wpList_append_str rfl _ _ 22 Tryd.underlying22 rfl w.heap.size _ out rfl (HO.out.alloc _) (some ⟨wr.heap.size, 0, none⟩) 1 1 rfl [s.extract a k] rfl (reads_one _ _) ?c2 ?c3 ?c4 o3 ?c5 ?_)
                case c2 => intro e; cases e
                case c3 => simp; omega
                case c4 => simp; omega
                case c5 => exact ho3.out
                intro A3 cap3 w3 HO3 HG3
                have HB3 := Lib.hid ((HB.alloc hsz (.cells #[.string (s.extract a k)] 9)).grown HG3 (by simp; omega) (fun j e => (HO.out.blk j e).1))
                have HO3 := Lib.hid HO3
                clear HG3
                go_wp2_with fail
                go_roundw
                case measure => simp [intOf]; omega
                case rel =>
                  exact ⟨k + 1, k + 1, o3, by omega, by omega, HO3L.out, by go_num, by go_num, ⟨A3, cap3, rfl, HO3⟩, HN, HB3.out⟩
              · have b0 := nz_yes he
                rw [if_pos he] at hst
                have EE := Lib.hid hst
                clear hst he h50 hxs
                go_wp2_with fail
                refine (RSite_any _ _).mono ?_
                rintro e w2 ⟨rfl, rfl⟩
                generalize siteL (chars (s.extract a k)) = st at *
                go_wp2_with fail
                go_ret3
                exact made3_of ⟨none, 0, rfl, OwnS.nil _ _, HB⟩ EE.out
          · by_cases h50 : out.length = 50
            · have d50 : ((out.length : Int) == 50) = true := by simp [h50]
              have EE : Hid (R = ([], a, 9)) := Lib.hid (by rw [hst, if_pos h50])
              clear hst h50 hxs
              go_wp2_with fail
              go_ret3
              exact made3_of ⟨none, 0, rfl, OwnS.nil _ _, HB⟩ EE.out
            · have d50 : ((out.length : Int) == 50) = false := by simp; omega
              rw [if_neg h50] at hst
              have hpl := siteL_le (chars (s.extract a k))
              by_cases he : (siteL (chars (s.extract a k))).2 = 0
              · have b0 := nz_no he
                have hx30 := siteL_size he
                rw [if_neg (by simpa using he)] at hst
                have hak1 : a + (s.extract a k).size + 1 = k + 1 := by omega
                rw [hak1] at hst
                have HN := Lib.hid (hN.out _ hst)
                have hosz : out.length < 50 := by omega
                have XS := Lib.hid hxs
                clear hst he h50 hxs hx30 hak1
                have hsz := HB.size
                go_wp2_with fail
                refine (RSite_any _ _).mono ?_
                rintro e w2 ⟨rfl, rfl⟩
                generalize siteL (chars (s.extract a k)) = st at *
                obtain ⟨o3, ho3⟩ : ∃ o3, Hid (out ++ [s.extract a k] = o3) := ⟨_, Lib.hid rfl⟩
                have HO3L : Hid (o3.length ≤ 50) := Lib.hid (by rw [← ho3.out]; simp; omega)
                rw [ho3.out] at HN
                go_wp2_with (at_builtin; refine wpList_append_str rfl _ _ 22 Tryd.underlying22 rfl w.heap.size _ out rfl (HO.out.alloc _) (some ⟨wr.heap.size, 0, none⟩) 1 1 rfl [s.extract a k] rfl (reads_one _ _) ?c2 ?c3 ?c4 o3 ?c5 ?_)
                case c2 => intro e; cases e
                case c3 => simp; omega
                case c4 => simp; omega
                case c5 => exact ho3.out
                intro A3 cap3 w3 HO3 HG3
                have HB3 := Lib.hid ((HB.alloc hsz (.cells #[.string (s.extract a k)] 9)).grown HG3 (by simp; omega) (fun j e => (HO.out.blk j e).1))
                have HO3 := Lib.hid HO3
                clear HG3
                go_wp2_with fail
                go_roundw
                case measure => simp [intOf]; omega
                case rel =>
                  exact ⟨k + 1, k + 1, o3, by omega, by omega, HO3L.out, by go_num, by go_num, ⟨A3, cap3, rfl, HO3⟩, HN, HB3.out⟩
              · have b0 := nz_yes he
                rw [if_pos he] at hst
                have EE := Lib.hid hst
                clear hst he h50 hxs
                go_wp2_with fail
                refine (RSite_any _ _).mono ?_
                rintro e w2 ⟨rfl, rfl⟩
                generalize siteL (chars (s.extract a k)) = st at *
                go_wp2_with fail
                go_ret3
                exact made3_of ⟨none, 0, rfl, OwnS.nil _ _, HB⟩ EE.out
      · have hkz : k = s.size + 1 := by omega
        have dle : decide ((k : Int) ≤ (s.size : Int)) = false := decide_eq_false (by omega)
        have EE : Hid (R = (out, 0, 0)) := Lib.hid (HE.out.2.1 hkz)
        clear hkz
        go_wp2_with fail
        go_ret3
        exact made3_of ⟨A', cap', rfl, HO.out, HB⟩ EE.out

end Go.Proofs.YthkmjelibdgbcaaDoor
