/- Wildmat: the law WildmatNil, by a walk through its text. -/
import Derived.Test.YtgnmanmlnbidfaaDoorWLit
namespace Go.Proofs.YtgnmanmlnbidfaaDoor
open Go.RowKit

theorem verd_nil (w : World) : VerdOf (.pointer none) (fun _ => 0) w := fun s W _ _ => Verdict_nil s W

theorem reads_one (w : World) (x : ByteArray) : ReadsV (w.alloc (.cells #[.string x] 9)) (w.alloc (.cells #[.string x] 9)).heap.size (some ⟨w.heap.size, 0, none⟩) ([x].map Value.string) := by
  have h := heap_alloc_new w (.cells #[.string x] 9)
  refine .inr ⟨w.heap.size, 0, rfl, by simp, fun i hi => ?_⟩
  match i, hi with
  | 0, _ => simp only [World.cell?, h]; rfl
  | n + 1, hi => simp at hi

set_option maxRecDepth 100000 in
set_option maxHeartbeats 2000000 in
/-- Filter with a list that is nil keeps nothing. -/
theorem Filter_nil (x : ByteArray) (cap : Nat) (A : Option Addr) (w : World) (hR : ReadsV w w.heap.size A ([x].map Value.string)) :
    Calls Tryd.prog 26 #[.pointer none, .slice A 1 cap] w fun e w' => e = .returned (.slice none 0 0) ∧ Below w.heap.size w w' := by
  obtain ⟨bb, off, hA, hbb, c0⟩ := hR.at (k := 0) (by simp)
  have c0 : w.cell? ⟨bb, off + 0, none⟩ = some (.string x) := c0
  rw [Nat.add_zero] at c0
  subst hA
  clear hR
  go_enter Tryd.func26, Tryd.ntmps26
  go_wp2_with fail
  go_loopw [5, 10] (fun va vk wr => va = .slice none 0 0 ∧ Hid (Below w.heap.size w wr) ∧ ((vk = .int .i64 0) ∨ vk = .int .i64 1)) (fun _ vk _ => (1 - intOf vk).toNat)
  case atStart => exact ⟨rfl, Lib.hid (Below.refl _ _), .inl rfl⟩
  case round =>
    obtain ⟨rfl, HB, hk⟩ := hrel
    rcases hk with rfl | rfl
    · have d0 := (HB.out.cell (p := ⟨bb, off, none⟩) hbb).trans c0
      go_wp2_with fail
      refine (Verdict_nil _ _).mono ?_
      rintro e w2 ⟨rfl, b2⟩
      have HB2 := Lib.hid (HB.out.trans (b2.mono HB.out.size))
      clear b2
      go_wp2_with fail
      go_roundw
      case measure => simp [intOf]
      case rel => exact ⟨rfl, HB2, .inr rfl⟩
    · go_wp2_with fail
      go_ret
      exact ⟨rfl, HB.out⟩

set_option maxRecDepth 100000 in
set_option maxHeartbeats 4000000 in
theorem nil_walk (s n : ByteArray) (m : Int) (w : World) (hm : w.cell? ⟨0, 0, none⟩ = some (.int .i64 m)) : Calls Tryd.prog 10 #[.string s, .string n] w fun e w' => e = .returned (.bool true) ∧ Below w.heap.size w w' := by
  have HM := Lib.hid hm
  have h00 := Lib.hid (World.block_lt_of_cell? _ _ hm)
  have c1 : Calls Tryd.prog 11 #[.string s, .int .i64 80] w fun e w' => e = .returned (.string (s.extract 0 (min s.size 80))) ∧ w = w' := cut_any s 80 w
  have c2 : Calls Tryd.prog 11 #[.string n, .int .i64 100] w fun e w' => e = .returned (.string (n.extract 0 (min n.size 100))) ∧ w = w' := cut_any n 100 w
  have hts := cut_size s 80
  have hus := cut_size n 100
  generalize s.extract 0 (min s.size 80) = t at *
  generalize n.extract 0 (min n.size 100) = u at *
  have C1 := Lib.hid c1
  have C2 := Lib.hid c2
  have hem0 : (⟨#[]⟩ : ByteArray).toList.isEmpty = true := by rw [ByteArray.toList_eq]; rfl
  clear hm c1 c2
  go_enter Tryd.func10, Tryd.ntmps10
  go_wp2_with fail
  refine C1.out.mono ?_
  rintro e w1 ⟨rfl, rfl⟩
  go_wp2_with fail
  refine C2.out.mono ?_
  rintro e w1 ⟨rfl, rfl⟩
  clear C1 C2
  go_wp2_with fail
  refine (Compile_any t w (by omega)).mono ?_
  rintro e w1 ⟨⟨p, rfl, hans⟩, b1⟩
  have hp : ∃ q, p = .pointer q := by
    rcases hans with ⟨_, b, A, cap, rfl, _⟩ | ⟨_, rfl⟩ <;> exact ⟨_, rfl⟩
  obtain ⟨q, rfl⟩ := hp
  generalize (compF (chars t)).2.1 = a1
  generalize (compF (chars t)).2.2 = a2
  have B1 := Lib.hid b1
  clear b1 hans
  go_wp2_with fail
  refine (Common_nil q w1).mono ?_
  rintro e w2 ⟨rfl, b2⟩
  have B2 := Lib.hid (B1.out.trans (b2.mono B1.out.size))
  clear b2
  go_wp2_with fail
  have hc3 : Calls Tryd.prog 19 #[.pointer q, .pointer none] w2 fun e w' => e = .returned (.tuple #[.string ⟨#[]⟩, .bool false]) ∧ Below w2.heap.size w2 w' := by
    cases q with
    | none => exact Common_nil none w2
    | some a => exact Common_nil2 a w2
  refine (hc3).mono ?_
  rintro e w3 ⟨rfl, b3⟩
  have B3 := Lib.hid (B2.out.trans (b3.mono B2.out.size))
  clear b3 hc3
  go_wp2_with fail
  refine (known_any m w3 (cell_later0 HM.out B3.out h00.out)).mono ?_
  rintro e w4 ⟨rfl, b4⟩
  have B4 := Lib.hid (B3.out.trans (b4.mono B3.out.size))
  clear b4
  go_wp2_with fail
  refine (PString_nil w4).mono ?_
  rintro e w5 ⟨rfl, b5⟩
  have B5 := Lib.hid (B4.out.trans (b5.mono B4.out.size))
  clear b5
  go_wp2_with fail
  refine (Match_nil u w5).mono ?_
  rintro e w6 ⟨rfl, b6⟩
  have B6 := Lib.hid (B5.out.trans (b6.mono B5.out.size))
  clear b6
  go_wp2_with fail
  refine (Match_nil ⟨#[]⟩ w6).mono ?_
  rintro e w7 ⟨rfl, b7⟩
  have B7 := Lib.hid (B6.out.trans (b7.mono B6.out.size))
  clear b7
  go_wp2_with fail
  refine (Empty_nil w7).mono ?_
  rintro e w8 ⟨rfl, b8⟩
  have B8 := Lib.hid (B7.out.trans (b8.mono B7.out.size))
  clear b8
  go_wp2_with fail
  refine (LString_nil w8).mono ?_
  rintro e w9 ⟨rfl, b9⟩
  have B9 := Lib.hid (B8.out.trans (b9.mono B8.out.size))
  clear b9
  go_wp2_with fail
  refine (Len_nil w9).mono ?_
  rintro e w10 ⟨rfl, b10⟩
  have B10 := Lib.hid (B9.out.trans (b10.mono B9.out.size))
  clear b10
  go_wp2_with fail
  refine (Verdict_nil u w10).mono ?_
  rintro e w11 ⟨rfl, b11⟩
  have B11 := Lib.hid (B10.out.trans (b11.mono B10.out.size))
  clear b11
  go_wp2_with fail
  have B12 := Lib.hid (B11.out.alloc B11.out.size (.cells #[.string u] 9))
  refine (Selects_any _ _ [u] _ _ _ (verd_nil _) (reads_one w11 u) (show 1 ≤ 100000 by decide) (by intro y hy; rw [List.mem_singleton.1 hy]; exact hus)).mono ?_
  rintro e w13 ⟨rfl, b13⟩
  have B13 := Lib.hid (B12.out.trans (b13.mono B12.out.size))
  clear b13
  go_wp2_with fail
  have B14 := Lib.hid (B13.out.alloc B13.out.size (.cells #[.string u] 9))
  refine (Filter_nil u _ _ _ (reads_one w13 u)).mono ?_
  rintro e w15 ⟨rfl, b15⟩
  have B15 := Lib.hid (B14.out.trans (b15.mono B14.out.size))
  clear b15
  go_wp2_with fail
  go_ret
  exact ⟨rfl, B15.out⟩

end Go.Proofs.YtgnmanmlnbidfaaDoor
