/- Route: Prepend and the reference's Prepend, by walks through their text. -/
import Derived.Test.YthkmjelibdgbcaaDoorCommon
namespace Go.Proofs.YthkmjelibdgbcaaDoor
open Go.RowKit

/-- What a function that makes a list and a number leaves. -/
def Made2 (w : World) (l : List ByteArray) (n : Nat) (e : Ending) (w' : World) : Prop :=
  ∃ A' cap', e = .returned (.tuple #[.slice A' l.length cap', .int .i64 (n : Nat)]) ∧ OwnS w' w.heap.size (.slice A' l.length cap') l ∧ Below w.heap.size w w'

def prepF (l : List ByteArray) (x : ByteArray) : List ByteArray × Nat :=
  if (siteL (chars x)).2 ≠ 0 then ([], (siteL (chars x)).2) else if checkF l ≠ 0 then ([], checkF l) else ((x :: l).take 50, 0)

theorem Prepend_any (A : Option Addr) (ca : Nat) (l : List ByteArray) (x : ByteArray) (w : World) (hl : ReadsS w A l) (hn : l.length ≤ 1000000) (hnil : A = none → ca = 0) :
    Calls Tryd.prog 19 #[.slice A l.length ca, .string x] w (Made2 w (prepF l x).1 (prepF l x).2) := by
  have HL := Lib.hid hl
  have HNIL := Lib.hid hnil
  clear hl hnil
  by_cases h1 : (siteL (chars x)).2 = 0
  · have b0 := nz_no h1
    by_cases h2 : checkF l = 0
    · have bc := nz_no h2
      have E : Hid (prepF l x = ((x :: l).take 50, 0)) := Lib.hid (by rw [prepF, if_neg (by simpa using h1), if_neg (by simpa using h2)])
      have hle : l.length ≤ 50 := by
        unfold checkF at h2
        split at h2
        · cases h2
        · omega
      rw [E.out]
      clear h1 h2
      go_enter Tryd.func19, Tryd.ntmps19
      go_wp2_with fail
      refine (Site_any x _).mono ?_
      rintro e w1 ⟨rfl, rfl⟩
      generalize siteL (chars x) = st at *
      go_wp2_with fail
      refine (Check_any A ca l _ HL.out hn).mono ?_
      rintro e w1 ⟨rfl, rfl⟩
      generalize checkF l = ck at *
      have b0' : Below w.heap.size w (w.alloc (.cells #[.string x] 9)) := (Below.refl _ _).alloc (Nat.le_refl _) _
      have o0 := own_one w x
      go_wp2_with (at_builtin; refine wpList_append_str rfl _ _ 23 Tryd.underlying23 rfl w.heap.size _ [x] rfl o0 A l.length ca rfl l rfl ?c1 ?c2 ?c3 ?c4 (x :: l) rfl ?_)
      case c1 => exact HL.out.below b0'
      case c2 => exact HNIL.out
      case c3 => simp; omega
      case c4 => simp
      intro A' cap' w2 HO HG
      have B2 := Lib.hid (b0'.grown HG (by simp) (fun k hk => (o0.blk k hk).1))
      have hcl : (x :: l).length = l.length + 1 := rfl
      have hcap : (x :: l).length ≤ cap' := by
        obtain ⟨A3, c3, e3, _, h3, _⟩ := HO.reads
        cases e3; exact h3
      have HO := Lib.hid HO
      clear HG o0 b0'
      obtain ⟨m, hm⟩ : ∃ m : Nat, min ((l.length : Int) + 1) 50 = (m : Int) := ⟨min (l.length + 1) 50, by omega⟩
      have hml : m ≤ cap' := by rw [hcl] at hcap; omega
      have hmx : ((x :: l).take 50).length = m := by rw [List.length_take, hcl]; omega
      have hmt : Hid ((x :: l).take m = (x :: l).take 50) := Lib.hid (by
        by_cases h : l.length + 1 ≤ 50
        · rw [List.take_of_length_le (by rw [hcl]; omega), List.take_of_length_le (by rw [hcl]; omega)]
        · have : m = 50 := by omega
          rw [this])
      have HMX := Lib.hid hmx
      clear hmx
      go_wp2_with fail
      go_ret2
      exact ⟨A', cap', by rw [HMX.out]; rfl, by rw [HMX.out, ← hmt.out]; exact HO.out.take m (by rw [hcl]; omega), B2.out⟩
    · have bc := nz_yes h2
      have E : Hid (prepF l x = ([], checkF l)) := Lib.hid (by rw [prepF, if_neg (by simpa using h1), if_pos h2])
      rw [E.out]
      clear h1 h2
      go_enter Tryd.func19, Tryd.ntmps19
      go_wp2_with fail
      refine (Site_any x _).mono ?_
      rintro e w1 ⟨rfl, rfl⟩
      generalize siteL (chars x) = st at *
      go_wp2_with fail
      refine (Check_any A ca l _ HL.out hn).mono ?_
      rintro e w1 ⟨rfl, rfl⟩
      generalize checkF l = ck at *
      go_wp2_with fail
      go_ret2
      exact ⟨none, 0, rfl, OwnS.nil _ _, Below.refl _ _⟩
  · have b0 := nz_yes h1
    have E : Hid (prepF l x = ([], (siteL (chars x)).2)) := Lib.hid (by rw [prepF, if_pos h1])
    rw [E.out]
    clear h1
    go_enter Tryd.func19, Tryd.ntmps19
    go_wp2_with fail
    refine (Site_any x _).mono ?_
    rintro e w1 ⟨rfl, rfl⟩
    generalize siteL (chars x) = st at *
    go_wp2_with fail
    go_ret2
    exact ⟨none, 0, rfl, OwnS.nil _ _, Below.refl _ _⟩

theorem RPrepend_any (A : Option Addr) (ca : Nat) (l : List ByteArray) (x : ByteArray) (w : World) (hl : ReadsS w A l) (hn : l.length ≤ 1000000) (hnil : A = none → ca = 0) :
    Calls Tryd.prog 20 #[.slice A l.length ca, .string x] w (Made2 w (prepF l x).1 (prepF l x).2) := by
  have HL := Lib.hid hl
  have HNIL := Lib.hid hnil
  clear hl hnil
  by_cases h1 : (siteL (chars x)).2 = 0
  · have b0 := nz_no h1
    by_cases h2 : checkF l = 0
    · have bc := nz_no h2
      have E : Hid (prepF l x = ((x :: l).take 50, 0)) := Lib.hid (by rw [prepF, if_neg (by simpa using h1), if_neg (by simpa using h2)])
      have hle : l.length ≤ 50 := by
        unfold checkF at h2
        split at h2
        · cases h2
        · omega
      rw [E.out]
      clear h1 h2
      go_enter Tryd.func20, Tryd.ntmps20
      go_wp2_with fail
      refine (RSite_any x _).mono ?_
      rintro e w1 ⟨rfl, rfl⟩
      generalize siteL (chars x) = st at *
      go_wp2_with fail
      refine (RCheck_any A ca l _ HL.out hn).mono ?_
      rintro e w1 ⟨rfl, rfl⟩
      generalize checkF l = ck at *
      have b0' : Below w.heap.size w (w.alloc (.cells #[.string x] 9)) := (Below.refl _ _).alloc (Nat.le_refl _) _
      have o0 := own_one w x
      go_wp2_with (at_builtin; refine wpList_append_str rfl _ _ 22 Tryd.underlying22 rfl w.heap.size _ [x] rfl o0 A l.length ca rfl l rfl ?c1 ?c2 ?c3 ?c4 (x :: l) rfl ?_)
      case c1 => exact HL.out.below b0'
      case c2 => exact HNIL.out
      case c3 => simp; omega
      case c4 => simp
      intro A' cap' w2 HO HG
      have B2 := Lib.hid (b0'.grown HG (by simp) (fun k hk => (o0.blk k hk).1))
      have hcl : (x :: l).length = l.length + 1 := rfl
      have hcap : (x :: l).length ≤ cap' := by
        obtain ⟨A3, c3, e3, _, h3, _⟩ := HO.reads
        cases e3; exact h3
      have HO := Lib.hid HO
      clear HG o0 b0'
      by_cases h50 : l.length = 50
      · have d50 : decide ((50 : Int) < (l.length : Int) + 1) = true := decide_eq_true (by omega)
        have hml : 50 ≤ cap' := by rw [hcl] at hcap; omega
        have HMX : Hid (((x :: l).take 50).length = 50) := Lib.hid (by rw [List.length_take, hcl]; omega)
        have hx50 : 50 ≤ (x :: l).length := by rw [hcl]; omega
        have HX := Lib.hid hx50
        clear hx50 h50
        go_wp2_with fail
        go_ret2
        exact ⟨A', cap', by rw [HMX.out]; rfl, by rw [HMX.out]; exact HO.out.take 50 HX.out, B2.out⟩
      · have d50 : decide ((50 : Int) < (l.length : Int) + 1) = false := decide_eq_false (by omega)
        have HMX : Hid ((x :: l).take 50 = x :: l) := Lib.hid (List.take_of_length_le (by rw [hcl]; omega))
        clear h50
        go_wp2_with fail
        go_ret2
        show Made2 w ((x :: l).take 50) 0 _ _
        rw [HMX.out]
        exact ⟨A', cap', rfl, HO.out, B2.out⟩
    · have bc := nz_yes h2
      have E : Hid (prepF l x = ([], checkF l)) := Lib.hid (by rw [prepF, if_neg (by simpa using h1), if_pos h2])
      rw [E.out]
      clear h1 h2
      go_enter Tryd.func20, Tryd.ntmps20
      go_wp2_with fail
      refine (RSite_any x _).mono ?_
      rintro e w1 ⟨rfl, rfl⟩
      generalize siteL (chars x) = st at *
      go_wp2_with fail
      refine (RCheck_any A ca l _ HL.out hn).mono ?_
      rintro e w1 ⟨rfl, rfl⟩
      generalize checkF l = ck at *
      go_wp2_with fail
      go_ret2
      exact ⟨none, 0, rfl, OwnS.nil _ _, Below.refl _ _⟩
  · have b0 := nz_yes h1
    have E : Hid (prepF l x = ([], (siteL (chars x)).2)) := Lib.hid (by rw [prepF, if_pos h1])
    rw [E.out]
    clear h1
    go_enter Tryd.func20, Tryd.ntmps20
    go_wp2_with fail
    refine (RSite_any x _).mono ?_
    rintro e w1 ⟨rfl, rfl⟩
    generalize siteL (chars x) = st at *
    go_wp2_with fail
    go_ret2
    exact ⟨none, 0, rfl, OwnS.nil _ _, Below.refl _ _⟩

end Go.Proofs.YthkmjelibdgbcaaDoor
