/- Wildmat: the law WildmatDisjoint, by a walk through its text. -/
import Derived.Test.YtgnmanmlnbidfaaDoorWLit
namespace Go.Proofs.YtgnmanmlnbidfaaDoor
open Go.RowKit

theorem comp_cases (s : ByteArray) (w : World) (hs : s.size ≤ 100000) : Calls Tryd.prog 12 #[.string s] w fun e w' =>
    (∃ (p : Value) (a n : Nat), e = .returned (.tuple #[p, .int .i64 a, .int .i64 n]) ∧ ((n = 0 ∧ ∃ b A cap, p = .pointer (some ⟨b, 0, none⟩) ∧ IsPat w' w'.heap.size b s (compF (chars s)).1 A cap) ∨ (n ≠ 0 ∧ p = .pointer none))) ∧ Below w.heap.size w w' := by
  refine (Compile_any s w hs).mono ?_
  rintro e w' ⟨⟨p, rfl, hans⟩, hB⟩
  refine ⟨⟨p, _, _, rfl, ?_⟩, hB⟩
  rcases hans with ⟨h0, b, A, cap, rfl, _, _, hp⟩ | h
  · exact .inl ⟨h0, b, A, cap, rfl, hp⟩
  · exact .inr h

/-- The shortest common string is not behind any that both match. -/
theorem best_le {P Q : List El} (hP : ∀ x ∈ P, x.ok) (hQ : ∀ x ∈ Q, x.ok) {u : ByteArray} (h1 : matchF P (chars u) = true) (h2 : matchF Q (chars u) = true) :
    ∃ v : ByteArray, bestF P Q = some (chars v) ∧ (v.size < u.size ∨ (v.size = u.size ∧ (Op.bytesLess v.toList u.toList || v.toList == u.toList) = true)) := by
  have hb := bestF_ok hP hQ
  cases hf : bestF P Q with
  | none =>
    rw [hf] at hb
    exact absurd ⟨(matchF_iff _ _).1 h1, (matchF_iff _ _).1 h2⟩ (hb (chars u))
  | some b =>
    rw [hf] at hb
    have hbs : ∀ x ∈ b, x < 256 := fun x hx => by have := named_lt (Mt_named hP hb.1.1 x hx); omega
    have hc := chars_bytesOf hbs
    refine ⟨bytesOf b, by rw [hc], ?_⟩
    have hle := hb.2 (chars u) ⟨(matchF_iff _ _).1 h1, (matchF_iff _ _).1 h2⟩
    rw [slLe_iff, chars_length] at hle
    rw [bytesOf_size, less_lex, hc]
    rcases hle with h | ⟨h3, h4⟩
    · exact .inl h
    · refine .inr ⟨h3, ?_⟩
      rcases lexLt_total b (chars u) with h5 | h5 | h5
      · rw [h5]; rfl
      · have : bytesOf b = u := by rw [h5, bytesOf_chars]
        rw [this, beq_self_eq_true, Bool.or_true]
      · rw [h5] at h4; cases h4

set_option maxRecDepth 100000 in
set_option maxHeartbeats 4000000 in
theorem dis_walk (s r n : ByteArray) (m : Int) (w : World) (hm : w.cell? ⟨0, 0, none⟩ = some (.int .i64 m)) : Calls Tryd.prog 6 #[.string s, .string r, .string n] w fun e w' => e = .returned (.bool true) ∧ Below w.heap.size w w' := by
  have HM := Lib.hid hm
  have h00 := Lib.hid (World.block_lt_of_cell? _ _ hm)
  have hts := cut_size s 40
  have hxs := cut_size r 40
  have hus := cut_size n 100
  have C1 : Hid (∀ w, Calls Tryd.prog 11 #[.string s, .int .i64 40] w fun e w' => e = .returned (.string (s.extract 0 (min s.size 40))) ∧ w = w') := Lib.hid (fun w => cut_any s 40 w)
  have C2 : Hid (∀ w, Calls Tryd.prog 11 #[.string r, .int .i64 40] w fun e w' => e = .returned (.string (r.extract 0 (min r.size 40))) ∧ w = w') := Lib.hid (fun w => cut_any r 40 w)
  have C3 : Hid (∀ w, Calls Tryd.prog 11 #[.string n, .int .i64 100] w fun e w' => e = .returned (.string (n.extract 0 (min n.size 100))) ∧ w = w') := Lib.hid (fun w => cut_any n 100 w)
  generalize s.extract 0 (min s.size 40) = t at *
  generalize r.extract 0 (min r.size 40) = x at *
  generalize n.extract 0 (min n.size 100) = u at *
  clear hm
  go_enter Tryd.func6, Tryd.ntmps6
  go_wp2_with fail
  refine (C1.out _).mono ?_
  rintro e w1 ⟨rfl, rfl⟩
  go_wp2_with fail
  refine (comp_cases t _ (by omega)).mono ?_
  rintro e w1 ⟨⟨p1, a1, n1, rfl, h1⟩, b1⟩
  have H1 := Lib.hid h1
  have B1 := Lib.hid b1
  clear b1 h1
  go_wp2_with fail
  refine (C2.out _).mono ?_
  rintro e w2 ⟨rfl, rfl⟩
  go_wp2_with fail
  refine (comp_cases x _ (by omega)).mono ?_
  rintro e w2 ⟨⟨p2, a2, n2, rfl, h2⟩, b2⟩
  have H2 := Lib.hid h2
  have B2 := Lib.hid (B1.out.trans (b2.mono B1.out.size))
  have b2' := Lib.hid b2
  clear b2 h2
  go_wp2_with fail
  refine (C3.out _).mono ?_
  rintro e w3 ⟨rfl, rfl⟩
  clear C1 C2 C3
  rcases H1.out with ⟨rfl, b1, A1, cap1, rfl, hp1⟩ | ⟨hn1, rfl⟩
  · rcases H2.out with ⟨rfl, b2, A2, cap2, rfl, hp2⟩ | ⟨hn2, rfl⟩
    · have HP1 := Lib.hid (hp1.later b2'.out)
      have HP2 := Lib.hid hp2
      clear H1 H2 hp1 hp2
      go_wp2_with fail
      refine (known_any m _ (cell_later0 HM.out B2.out h00.out)).mono ?_
      rintro e w4 ⟨rfl, b4⟩
      have B4 := Lib.hid (B2.out.trans (b4.mono B2.out.size))
      have HP1' := Lib.hid (HP1.out.later b4)
      have HP2' := Lib.hid (HP2.out.later b4)
      clear b4 HP1 HP2
      go_wp2_with fail
      refine (Match_any _ _ _ _ _ _ _ HP1'.out (by omega)).mono ?_
      rintro e w5 ⟨rfl, b5⟩
      have B5 := Lib.hid (B4.out.trans (b5.mono B4.out.size))
      have HP1 := Lib.hid (HP1'.out.later b5)
      have HP2 := Lib.hid (HP2'.out.later b5)
      clear b5 HP1' HP2'
      cases hq1 : matchF (compF (chars t)).1 (chars u) with
      | false =>
        go_wp2_with fail
        go_ret
        exact ⟨rfl, B5.out⟩
      | true =>
        have Q1 := Lib.hid hq1
        clear hq1
        go_wp2_with fail
        refine (Match_any _ _ _ _ _ _ _ HP2.out (by omega)).mono ?_
        rintro e w6 ⟨rfl, b6⟩
        have B6 := Lib.hid (B5.out.trans (b6.mono B5.out.size))
        have HP1' := Lib.hid (HP1.out.later b6)
        have HP2' := Lib.hid (HP2.out.later b6)
        clear b6 HP1 HP2
        cases hq2 : matchF (compF (chars x)).1 (chars u) with
        | false =>
          go_wp2_with fail
          go_ret
          exact ⟨rfl, B6.out⟩
        | true =>
          have Q2 := Lib.hid hq2
          have E1 : Hid (emptyF (compF (chars t)).1 = false) := Lib.hid (emptyF_of_match HP1'.out.ok ((matchF_iff _ _).1 Q1.out))
          have E2 : Hid (emptyF (compF (chars x)).1 = false) := Lib.hid (emptyF_of_match HP2'.out.ok ((matchF_iff _ _).1 Q2.out))
          obtain ⟨v, hv1, hv2⟩ := best_le HP1'.out.ok HP2'.out.ok Q1.out Q2.out
          have V1 := Lib.hid hv1
          clear hq2 hv1
          go_wp2_with fail
          refine (Common_any _ _ _ _ _ _ _ _ _ _ _ _ HP1'.out HP2'.out (Nat.le_refl _)).mono ?_
          rintro e w7 ⟨rfl, b7⟩
          rw [V1.out, show (some (chars v)).isSome = true from rfl, show (some (chars v)).getD [] = chars v from rfl, bytesOf_chars]
          have B7 := Lib.hid (B6.out.trans (b7.mono B6.out.size))
          have HP1 := Lib.hid (HP1'.out.later b7)
          have HP2 := Lib.hid (HP2'.out.later b7)
          clear b7 HP1' HP2'
          go_wp2_with fail
          refine (Empty_any _ _ _ _ _ _ HP1.out).mono ?_
          rintro e w8 ⟨rfl, b8⟩
          rw [E1.out]
          have B8 := Lib.hid (B7.out.trans (b8.mono B7.out.size))
          have HP2' := Lib.hid (HP2.out.later b8)
          clear b8 HP1 HP2
          go_wp2_with fail
          refine (Empty_any _ _ _ _ _ _ HP2'.out).mono ?_
          rintro e w9 ⟨rfl, b9⟩
          rw [E2.out]
          have B9 := Lib.hid (B8.out.trans (b9.mono B8.out.size))
          clear b9 HP2'
          rcases hv2 with hv | ⟨hv, hle⟩
          · have hi : (v.size : Int) < (u.size : Int) := by omega
            go_wp2_with fail
            go_ret
            exact ⟨rfl, B9.out⟩
          · have hi : ¬ (v.size : Int) < (u.size : Int) := by omega
            have hd : decide ((v.size : Int) < (u.size : Int)) = false := decide_eq_false hi
            have he : ((v.size : Int) == (u.size : Int)) = true := by rw [beq_iff_eq]; omega
            go_wp2_with fail
            go_ret
            exact ⟨by rw [← hle]; rfl, B9.out⟩
    · have e2 : ((n2 : Int) != 0) = true := by rw [bne_iff_ne]; omega
      clear H1 H2 hp1 hn2
      go_wp2_with fail
      refine (known_any m _ (cell_later0 HM.out B2.out h00.out)).mono ?_
      rintro e w4 ⟨rfl, b4⟩
      have B4 := Lib.hid (B2.out.trans (b4.mono B2.out.size))
      clear b4
      go_wp2_with fail
      refine (known_any m _ (cell_later0 HM.out B4.out h00.out)).mono ?_
      rintro e w5 ⟨rfl, b5⟩
      have B5 := Lib.hid (B4.out.trans (b5.mono B4.out.size))
      clear b5
      go_wp2_with fail
      go_ret
      exact ⟨rfl, B5.out⟩
  · have e1 : ((n1 : Int) != 0) = true := by rw [bne_iff_ne]; omega
    clear H1 H2 hn1
    go_wp2_with fail
    refine (known_any m _ (cell_later0 HM.out B2.out h00.out)).mono ?_
    rintro e w4 ⟨rfl, b4⟩
    have B4 := Lib.hid (B2.out.trans (b4.mono B2.out.size))
    clear b4
    go_wp2_with fail
    refine (known_any m _ (cell_later0 HM.out B4.out h00.out)).mono ?_
    rintro e w5 ⟨rfl, b5⟩
    have B5 := Lib.hid (B4.out.trans (b5.mono B4.out.size))
    clear b5
    go_wp2_with fail
    go_ret
    exact ⟨rfl, B5.out⟩

end Go.Proofs.YtgnmanmlnbidfaaDoor
