/- Wildmat: the known answers, by a walk through their text. -/
import Derived.Test.YtgnmanmlnbidfaaDoorKnownF
namespace Go.Proofs.YtgnmanmlnbidfaaDoor
open Go.RowKit

theorem comp_some (s : ByteArray) (w : World) (hs : s.size ≤ 100000) (h : (compF (chars s)).2 = (0, 0)) : Calls Tryd.prog 12 #[.string s] w fun e w' =>
    (∃ b A cap, e = .returned (.tuple #[.pointer (some ⟨b, 0, none⟩), .int .i64 0, .int .i64 0]) ∧ IsPat w' w'.heap.size b s (compF (chars s)).1 A cap) ∧ Below w.heap.size w w' := by
  refine (Compile_any s w hs).mono ?_
  rintro e w' ⟨⟨p, rfl, hans⟩, hB⟩
  rw [h] at hans ⊢
  rcases hans with ⟨_, b, A, cap, rfl, _, _, hp⟩ | ⟨h0, _⟩
  · exact ⟨⟨b, A, cap, rfl, hp⟩, hB⟩
  · exact absurd rfl h0

theorem comp_err (s : ByteArray) (w : World) (a n : Nat) (hs : s.size ≤ 100000) (h : (compF (chars s)).2 = (a, n)) (hn : n ≠ 0) : Calls Tryd.prog 12 #[.string s] w fun e w' =>
    e = .returned (.tuple #[.pointer none, .int .i64 a, .int .i64 n]) ∧ Below w.heap.size w w' := by
  refine (Compile_any s w hs).mono ?_
  rintro e w' ⟨⟨p, rfl, hans⟩, hB⟩
  rw [h] at hans ⊢
  rcases hans with ⟨h0, _⟩ | ⟨_, rfl⟩
  · exact absurd h0 hn
  · exact ⟨rfl, hB⟩

theorem list_some (s : ByteArray) (m : Int) (w : World) (hs : s.size ≤ 1000) (hm : w.cell? ⟨0, 0, none⟩ = some (.int .i64 m)) (h : (parseF s).2 = (0, 0)) : Calls Tryd.prog 21 #[.string s] w fun e w' =>
    (∃ lb its A cap, e = .returned (.tuple #[.pointer (some ⟨lb, 0, none⟩), .int .i64 0, .int .i64 0]) ∧ its.map itA = (parseF s).1 ∧ IsList w' w'.heap.size lb s its A cap) ∧ Below w.heap.size w w' := by
  refine (ParseList_any s m w hs hm).mono ?_
  rintro e w' ⟨⟨p, rfl, hans⟩, hB⟩
  rw [h] at hans ⊢
  rcases hans with ⟨_, lb, its, A, cap, rfl, h1, _, hp⟩ | ⟨h0, _⟩
  · exact ⟨⟨lb, its, A, cap, rfl, h1, hp⟩, hB⟩
  · exact absurd rfl h0

theorem IsPat.later {w W : World} {b : Nat} {txt : ByteArray} {L : List El} {A : Option Addr} {cap : Nat} (h : IsPat w w.heap.size b txt L A cap) (hb : Below w.heap.size w W) : IsPat W W.heap.size b txt L A cap := (h.below hb).up hb.size

theorem IsList.up {w : World} {B B' lb : Nat} {txt : ByteArray} {its : List (Nat × Nat × List El)} {A : Option Addr} {cap : Nat} (h : IsList w B lb txt its A cap) (hB : B ≤ B') : IsList w B' lb txt its A cap :=
  ⟨Nat.lt_of_lt_of_le h.lt hB, h.text, h.items, by
    rcases h.reads with h3 | ⟨b, off, h3, h4, h5⟩
    · exact .inl h3
    · exact .inr ⟨b, off, h3, Nat.lt_of_lt_of_le h4 hB, h5⟩, fun t ht => by obtain ⟨h1, x, y, z, h2⟩ := h.pats t ht; exact ⟨h1, x, y, z, h2.up hB⟩, h.len⟩

theorem IsList.later {w W : World} {lb : Nat} {txt : ByteArray} {its : List (Nat × Nat × List El)} {A : Option Addr} {cap : Nat} (h : IsList w w.heap.size lb txt its A cap) (hb : Below w.heap.size w W) : IsList W W.heap.size lb txt its A cap := (h.below hb).up hb.size

theorem verd_of {w : World} {lb : Nat} {txt : ByteArray} {its : List (Nat × Nat × List El)} {A : Option Addr} {cap : Nat} (h : IsList w w.heap.size lb txt its A cap) : VerdOf (.pointer (some ⟨lb, 0, none⟩)) (fun s => verdF (its.map itA) (chars s)) w :=
  fun s W hs hB => Verdict_any lb txt s its A cap W (h.later hB) hs

theorem reads_two (w : World) (x y : ByteArray) : ReadsV (w.alloc (.cells #[.string x, .string y] 9)) (w.alloc (.cells #[.string x, .string y] 9)).heap.size (some ⟨w.heap.size, 0, none⟩) ([x, y].map Value.string) := by
  have h := heap_alloc_new w (.cells #[.string x, .string y] 9)
  refine .inr ⟨w.heap.size, 0, rfl, by simp, fun i hi => ?_⟩
  match i, hi with
  | 0, _ => simp only [World.cell?, h]; rfl
  | 1, _ => simp only [World.cell?, h]; rfl
  | n + 2, hi => simp at hi; omega

set_option maxRecDepth 100000 in
set_option maxHeartbeats 4000000 in
theorem known_any (m : Int) (w : World) (hm : w.cell? ⟨0, 0, none⟩ = some (.int .i64 m)) : Calls Tryd.prog 14 #[] w fun e w' => e = .returned (.bool true) ∧ Below w.heap.size w w' := by
  have HM := Lib.hid hm
  clear hm
  go_enter Tryd.func14, Tryd.ntmps14
  go_wp2_with fail
  refine (comp_some k1 _ (by decide) k1_ok).mono ?_
  rintro e w1 ⟨⟨p1, A1, cap1, rfl, hp1⟩, b1⟩
  have HP1 := Lib.hid hp1
  have HB1 := Lib.hid b1
  clear hp1 b1
  go_wp2_with fail
  refine (comp_some k2 _ (by decide) k2_ok).mono ?_
  rintro e w2 ⟨⟨p2, A2, cap2, rfl, hp2⟩, b2⟩
  have HP2 := Lib.hid hp2
  have HP1' := Lib.hid (HP1.out.later b2)
  have HB2 := Lib.hid (HB1.out.trans (b2.mono HB1.out.size))
  clear hp2 b2 HP1 HB1
  go_wp2_with fail
  refine (comp_err k3 _ 1 3 (by decide) k3_ok (by decide)).mono ?_
  rintro e w3 ⟨rfl, b3⟩
  have HP1 := Lib.hid (HP1'.out.later b3)
  have HP2' := Lib.hid (HP2.out.later b3)
  have HB3 := Lib.hid (HB2.out.trans (b3.mono HB2.out.size))
  clear b3 HP1' HP2 HB2
  go_wp2_with fail
  refine (comp_some k4 _ (by decide) k4_ok).mono ?_
  rintro e w4 ⟨⟨p4, A4, cap4, rfl, hp4⟩, b4⟩
  have HP1' := Lib.hid (HP1.out.later b4)
  have HP2 := Lib.hid (HP2'.out.later b4)
  have HP4 := Lib.hid hp4
  have HB4 := Lib.hid (HB3.out.trans (b4.mono HB3.out.size))
  clear hp4 b4 HP1 HP2' HB3
  go_wp2_with fail
  refine (Common_any w4.heap.size p1 p2 _ _ _ _ _ _ _ _ w4 HP1'.out HP2.out (Nat.le_refl _)).mono ?_
  rintro e w5 ⟨rfl, b5⟩
  rw [k12_best]
  have hos : bytesOf ((some (chars nOs)).getD []) = nOs := bytesOf_chars _
  have hsm : (some (chars nOs)).isSome = true := rfl
  rw [hos, hsm]
  clear hos hsm
  have HP1 := Lib.hid (HP1'.out.later b5)
  have HP4' := Lib.hid (HP4.out.later b5)
  have HB5 := Lib.hid (HB4.out.trans (b5.mono HB4.out.size))
  clear b5 HP1' HP2 HP4 HB4
  go_wp2_with fail
  refine (list_some k6 m w5 (by decide) ((HB5.out.cell (p := ⟨0, 0, none⟩) (World.block_lt_of_cell? _ _ HM.out)).trans HM.out) k6_ok).mono ?_
  rintro e w6 ⟨⟨lb, its, A6, cap6, rfl, hits, hl6⟩, b6⟩
  have H1 : Hid (∀ (s : ByteArray) W, s.size ≤ 100 → Below w6.heap.size w6 W → Calls Tryd.prog 15 #[.pointer (some ⟨p1, 0, none⟩), .string s] W fun e w' => e = .returned (.bool (matchF (compF (chars k1)).1 (chars s))) ∧ Below W.heap.size W w') := Lib.hid (fun s W hs hB => Match_any p1 _ s _ _ _ W ((HP1.out.later b6).later hB) hs)
  have H4 : Hid (∀ W, Below w6.heap.size w6 W → Calls Tryd.prog 17 #[.pointer (some ⟨p4, 0, none⟩)] W fun e w' => e = .returned (.bool (emptyF (compF (chars k4)).1)) ∧ Below W.heap.size W w') := Lib.hid (fun W hB => Empty_any p4 _ _ _ _ W ((HP4'.out.later b6).later hB))
  have HV : Hid (VerdOf (.pointer (some ⟨lb, 0, none⟩)) (fun s => verdF (parseF k6).1 (chars s)) w6) := Lib.hid (by rw [← hits]; exact verd_of hl6)
  have HB6 := Lib.hid (HB5.out.trans (b6.mono HB5.out.size))
  have hk : Hid (Below w6.heap.size w6 w6) := Lib.hid (Below.refl _ _)
  clear hits hl6 b6 HP1 HP4' HB5
  go_wp2_with fail
  refine (H1.out nOs _ (by decide) hk.out).mono ?_
  rintro e w7 ⟨rfl, b7⟩
  rw [k1_os]
  have h7 := Lib.hid (hk.out.trans (b7.mono hk.out.size))
  clear b7 hk
  go_wp2_with fail
  refine (H1.out nDot _ (by decide) h7.out).mono ?_
  rintro e w8 ⟨rfl, b8⟩
  rw [k1_dot]
  have h8 := Lib.hid (h7.out.trans (b8.mono h7.out.size))
  clear b8 h7
  go_wp2_with fail
  refine (H1.out nComp _ (by decide) h8.out).mono ?_
  rintro e w9 ⟨rfl, b9⟩
  rw [k1_comp]
  have h9 := Lib.hid (h8.out.trans (b9.mono h8.out.size))
  clear b9 h8
  go_wp2_with fail
  refine (H4.out _ h9.out).mono ?_
  rintro e w10 ⟨rfl, b10⟩
  rw [k4_empty]
  have hnos : nOs.toList = [99, 111, 109, 112, 46, 111, 115] := by rw [ByteArray.toList_eq]; rfl
  have h10 := Lib.hid (h9.out.trans (b10.mono h9.out.size))
  clear b10 h9
  go_wp2_with fail
  refine (HV.out nOs _ (by decide) h10.out).mono ?_
  rintro e w11 ⟨rfl, b11⟩
  rw [show (fun s => verdF (parseF k6).1 (chars s)) nOs = 1 from k6_os]
  have h11 := Lib.hid (h10.out.trans (b11.mono h10.out.size))
  clear b11 h10 hnos
  go_wp2_with fail
  refine (HV.out nX _ (by decide) h11.out).mono ?_
  rintro e w12 ⟨rfl, b12⟩
  rw [show (fun s => verdF (parseF k6).1 (chars s)) nX = 2 from k6_x]
  have h12 := Lib.hid (h11.out.trans (b12.mono h11.out.size))
  clear b12 h11
  go_wp2_with fail
  refine (HV.out nAns _ (by decide) h12.out).mono ?_
  rintro e w13 ⟨rfl, b13⟩
  rw [show (fun s => verdF (parseF k6).1 (chars s)) nAns = 1 from k6_ans]
  have h13 := Lib.hid (h12.out.trans (b13.mono h12.out.size))
  clear b13 h12
  go_wp2_with fail
  refine (HV.out nBin _ (by decide) h13.out).mono ?_
  rintro e w14 ⟨rfl, b14⟩
  rw [show (fun s => verdF (parseF k6).1 (chars s)) nBin = 3 from k6_bin]
  have h14 := Lib.hid (h13.out.trans (b14.mono h13.out.size))
  clear b14 h13
  go_wp2_with fail
  have h15 := Lib.hid (h14.out.alloc h14.out.size (.cells #[.string nX, .string nOs] 9))
  refine (Selects_any _ _ [nX, nOs] _ _ _ (fun s W hs hB => HV.out s W hs (h15.out.trans (hB.mono h15.out.size))) (reads_two w14 nX nOs) (by decide) (by decide)).mono ?_
  rintro e w16 ⟨rfl, b16⟩
  rw [k6_s1]
  have h16 := Lib.hid (h15.out.trans (b16.mono h15.out.size))
  clear b16 h15 h14
  go_wp2_with fail
  have h17 := Lib.hid (h16.out.alloc h16.out.size (.cells #[.string nOs, .string nBin] 9))
  refine (Selects_any _ _ [nOs, nBin] _ _ _ (fun s W hs hB => HV.out s W hs (h17.out.trans (hB.mono h17.out.size))) (reads_two w16 nOs nBin) (by decide) (by decide)).mono ?_
  rintro e w18 ⟨rfl, b18⟩
  rw [k6_s2]
  have h18 := Lib.hid (h17.out.trans (b18.mono h17.out.size))
  clear b18 h16 h17
  go_wp2_with fail
  go_ret
  exact ⟨rfl, HB6.out.trans (h18.out.mono HB6.out.size)⟩

end Go.Proofs.YtgnmanmlnbidfaaDoor
