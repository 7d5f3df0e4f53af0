/- Route: Clone, Common and the reference's Common, by walks through their text. -/
import Derived.Test.YthkmjelibdgbcaaDoorText
namespace Go.Proofs.YthkmjelibdgbcaaDoor
open Go.RowKit

theorem run_nil (a : Option Addr) (l c : Nat) (w : World) : (Op.equal 23 (.slice a l c) (.slice none 0 0)).run Tryd.prog w = .ok a.isNone w := by
  have h : ∀ d : Nat, (Op.equalIn (d + 1) 23 (.slice a l c) (.slice none 0 0)).run Tryd.prog w = .ok a.isNone w := fun d => by
    cases a <;> simp [Op.equalIn, run_underlying Tryd.underlying23]
  exact h 9999

/-- What a function that makes a list leaves. -/
def Made (w : World) (l : List ByteArray) (e : Ending) (w' : World) : Prop :=
  ∃ A' cap', e = .returned (.slice A' l.length cap') ∧ OwnS w' w.heap.size (.slice A' l.length cap') l ∧ Below w.heap.size w w'

theorem Clone_any (A : Option Addr) (ca : Nat) (l : List ByteArray) (w : World) (hl : ReadsS w A l) (hn : l.length ≤ 1000000) (hnil : A = none → ca = 0) :
    Calls Tryd.prog 33 #[.slice A l.length ca] w (Made w l) := by
  cases A with
  | none =>
    obtain rfl : l = [] := by
      rcases hl with h | ⟨b, off, h, _⟩
      · exact h
      · cases h
    obtain rfl := hnil rfl
    have hq : (binOp .eql 23 (.slice none 0 0) (.slice none 0 0)).run Tryd.prog w = .ok (.bool true) w := by simp [binOp, run_nil none 0 0 w]
    go_enter Tryd.func33, Tryd.ntmps33
    go_wp2_with fail
    go_ret
    exact ⟨none, 0, rfl, OwnS.nil _ _, Below.refl _ _⟩
  | some a =>
    have HL := Lib.hid hl
    clear hl hnil
    have hq : (binOp .eql 23 (.slice (some a) l.length ca) (.slice none 0 0)).run Tryd.prog w = .ok (.bool false) w := by simp [binOp, run_nil (some a) l.length ca w]
    go_enter Tryd.func33, Tryd.ntmps33
    have b0 : Below w.heap.size w (w.alloc (.cells #[] 9)) := (Below.refl _ _).alloc (Nat.le_refl _) _
    have o0 := own_none w
    go_wp2_with (at_builtin; refine wpList_append_str rfl _ _ 23 Tryd.underlying23 rfl w.heap.size _ [] rfl o0 (some a) l.length ca rfl l rfl ?c1 ?c2 ?c3 ?c4 l rfl ?_)
    case c1 => exact HL.out.below b0
    case c2 => intro e; cases e
    case c3 => simp; omega
    case c4 => simp
    intro A' cap' w2 HO HG
    have B2 := b0.grown HG (by simp) (fun k hk => (o0.blk k hk).1)
    have HO := Lib.hid HO
    have B2 := Lib.hid B2
    clear HG o0 b0
    go_wp2_with fail
    go_ret
    exact ⟨A', cap', rfl, HO.out, B2.out⟩

def eqEnd (a b : List ByteArray) (n : Nat) : Bool := decide (n < a.length) && decide (n < b.length) && decide (a.getD (a.length - 1 - n) ByteArray.empty = b.getD (b.length - 1 - n) ByteArray.empty)

/-- How many names from the end two lists share. -/
def comN (a b : List ByteArray) : Nat := (firstI (fun n => !eqEnd a b n) (a.length + 1)).getD 0

theorem comN_eq {a b : List ByteArray} {k : Nat} (hk : k ≤ a.length) (h : ∀ j, j < k → eqEnd a b j = true) (e : eqEnd a b k = false) : comN a b = k := by
  unfold comN
  rw [firstI_some (i := k) (by omega) (by simp [e]) (fun j hj => by simp [h j hj])]
  rfl

def comF (a b : List ByteArray) : List ByteArray := a.drop (a.length - comN a b)

theorem lt62 {x : Int} (h : x < 4611686018427387904) : x < 2 ^ 62 := by
  have e : (2 : Int) ^ 62 = 4611686018427387904 := by decide
  rw [e]; exact h

theorem cutA_nil {A : Option Addr} {ca j : Nat} (h : A = none → ca = 0) : cutA A ca j = none → ca - j = 0 := by
  intro e
  have : A = none := by
    unfold cutA at e
    split at e
    · exact e
    · simpa using e
  rw [h this]; omega

theorem eq_on {a b : List ByteArray} {k : Nat} (H : Hid (∀ j, j < k → eqEnd a b j = true)) (h : eqEnd a b k = true) : Hid (∀ j, j < k + 1 → eqEnd a b j = true) := upto_on H h

theorem Common_any (A B : Option Addr) (ca cb : Nat) (a b : List ByteArray) (w : World) (ha : ReadsS w A a) (hb : ReadsS w B b) (hna : a.length ≤ 1000000) (hnb : b.length ≤ 1000000) (hca : a.length ≤ ca) (hnil : A = none → ca = 0) :
    Calls Tryd.prog 25 #[.slice A a.length ca, .slice B b.length cb] w (Made w (comF a b)) := by
  have HA := Lib.hid ha
  have HB := Lib.hid hb
  have HNIL := Lib.hid hnil
  clear ha hb hnil
  go_enter Tryd.func25, Tryd.ntmps25
  go_wp2_with fail
  go_loopw [5] (fun v wr => ∃ k : Nat, k ≤ a.length ∧ v = .int .i64 k ∧ Hid (∀ j, j < k → eqEnd a b j = true) ∧ Below w.heap.size w wr) (fun v _ => (a.length - intOf v).toNat)
  case atStart => exact ⟨0, by omega, rfl, Lib.hid (fun j hj => by omega), Below.refl _ _⟩
  case round =>
    obtain ⟨k, hk, rfl, HK, HW⟩ := hrel
    by_cases hab : k < a.length ∧ k < b.length
    · obtain ⟨h1, h2⟩ := hab
      have d1 : decide ((k : Int) < (a.length : Int)) = true := decide_eq_true (by omega)
      have d2 : decide ((k : Int) < (b.length : Int)) = true := decide_eq_true (by omega)
      obtain ⟨ix, hix⟩ : ∃ ix : Nat, ix = a.length - 1 - k := ⟨_, rfl⟩
      obtain ⟨iy, hiy⟩ : ∃ iy : Nat, iy = b.length - 1 - k := ⟨_, rfl⟩
      have hxl : ix < a.length := by omega
      have hyl : iy < b.length := by omega
      have E1 : Hid (IntKind.i64.wrap ((a.length : Int) - 1) = (a.length : Int) - 1) := Lib.hid (wraps_i64 _ (by omega) (lt62 (by omega)))
      have E2 : Hid (IntKind.i64.wrap ((b.length : Int) - 1) = (b.length : Int) - 1) := Lib.hid (wraps_i64 _ (by omega) (lt62 (by omega)))
      have E3 : Hid (IntKind.i64.wrap ((a.length : Int) - 1 - (k : Int)) = (ix : Int)) := Lib.hid ((wraps_i64 _ (by omega) (lt62 (by omega))).trans (by omega))
      have E4 : Hid (IntKind.i64.wrap ((b.length : Int) - 1 - (k : Int)) = (iy : Int)) := Lib.hid ((wraps_i64 _ (by omega) (lt62 (by omega))).trans (by omega))
      have i1 : (ix : Int) < (a.length : Int) := by omega
      have i2 : (iy : Int) < (b.length : Int) := by omega
      obtain ⟨b1, o1, hA, hb1, hc1⟩ := (HA.out.below HW).at hxl
      obtain ⟨b2, o2, hB, hb2, hc2⟩ := (HB.out.below HW).at hyl
      have heq : eqEnd a b k = decide (a.getD ix ByteArray.empty = b.getD iy ByteArray.empty) := by
        simp only [eqEnd, decide_eq_true h1, decide_eq_true h2, Bool.true_and, hix, hiy]
      subst hA
      subst hB
      have HIX := Lib.hid hix
      have HIY := Lib.hid hiy
      clear hix hiy
      by_cases he : a.getD ix ByteArray.empty = b.getD iy ByteArray.empty
      · have HK2 := eq_on HK (heq.trans (decide_eq_true he))
        have hne : ((a.getD ix ByteArray.empty).toList == (b.getD iy ByteArray.empty).toList) = true := by rw [beq_str, he]; simp
        clear he heq
        generalize a.getD ix ByteArray.empty = x at *
        generalize b.getD iy ByteArray.empty = y at *
        go_wp2_with fail
        have e1 := E1.out
        have e2 := E2.out
        have e3 := E3.out
        have e4 := E4.out
        go_quiet (fail)
        clear e1 e2 e3 e4
        go_wp2_with fail
        go_roundw
        case rel => exact ⟨k + 1, by omega, by simp, HK2, below_drewN HW _⟩
        case measure => simp [intOf]; omega
      · have HKN := Lib.hid (comN_eq hk HK.out (heq.trans (decide_eq_false he)))
        have hne : ((a.getD ix ByteArray.empty).toList == (b.getD iy ByteArray.empty).toList) = false := by rw [beq_str, decide_eq_false he]
        clear he heq
        generalize a.getD ix ByteArray.empty = x at *
        generalize b.getD iy ByteArray.empty = y at *
        go_wp2_with fail
        have e1 := E1.out
        have e2 := E2.out
        have e3 := E3.out
        have e4 := E4.out
        go_quiet (fail)
        clear e1 e2 e3 e4
        have HW := below_drewN HW nq
        have HN2 : Hid ((some ⟨b1, o1, none⟩ : Option Addr) = none → ca = 0) := HNIL
        obtain ⟨j, hj⟩ : ∃ j : Nat, j = a.length - k := ⟨_, rfl⟩
        have E : Hid (comF a b = a.drop j) := Lib.hid (by rw [comF, HKN.out, hj])
        have HR := Lib.hid ((HA.out.below HW).drop j ca hca)
        rw [← E.out] at HR
        have HLN : Hid ((comF a b).length = a.length - j) := Lib.hid (by rw [E.out, List.length_drop])
        generalize wr.drewN nq = W at *
        have hsl := fun (A : Option Addr) => slice_from23 A a.length ca j ((a.length : Int) - (k : Int)) (by omega) (by omega)
        have HJ := Lib.hid hj
        clear hj
        have HC := fun A' (h : ReadsS W A' (comF a b)) (h2 : A' = none → ca - j = 0) => Clone_any A' (ca - j) (comF a b) W h (by rw [HLN.out]; omega) h2
        rw [HLN.out] at HC
        go_wp2_with fail
        refine (HC _ HR.out (cutA_nil HN2.out)).mono ?_
        rintro e w1 ⟨A', cap', rfl, HO, b2⟩
        have HO := Lib.hid (HO.mono HW.size)
        have HW := HW.trans (b2.mono HW.size)
        clear HC b2
        go_wp2_with fail
        go_ret
        exact ⟨A', cap', rfl, HO.out, HW⟩
    · have HKN : Hid (comN a b = k) := Lib.hid (comN_eq hk HK.out (by
        by_cases h1 : k < a.length
        · have h2 : ¬ k < b.length := fun h => hab ⟨h1, h⟩
          simp [eqEnd, h2]
        · simp [eqEnd, h1]))
      by_cases h1 : k < a.length
      · have h2 : ¬ k < b.length := fun h => hab ⟨h1, h⟩
        have d1 : decide ((k : Int) < (a.length : Int)) = true := decide_eq_true (by omega)
        have d2 : decide ((k : Int) < (b.length : Int)) = false := decide_eq_false (by omega)
        clear hab
        go_wp2_with fail
        go_quiet (fail)
        have HW := below_drewN HW nq
        have HN2 : Hid (A = none → ca = 0) := HNIL
        obtain ⟨j, hj⟩ : ∃ j : Nat, j = a.length - k := ⟨_, rfl⟩
        have E : Hid (comF a b = a.drop j) := Lib.hid (by rw [comF, HKN.out, hj])
        have HR := Lib.hid ((HA.out.below HW).drop j ca hca)
        rw [← E.out] at HR
        have HLN : Hid ((comF a b).length = a.length - j) := Lib.hid (by rw [E.out, List.length_drop])
        generalize wr.drewN nq = W at *
        have hsl := fun (A : Option Addr) => slice_from23 A a.length ca j ((a.length : Int) - (k : Int)) (by omega) (by omega)
        have HJ := Lib.hid hj
        clear hj
        have HC := fun A' (h : ReadsS W A' (comF a b)) (h2 : A' = none → ca - j = 0) => Clone_any A' (ca - j) (comF a b) W h (by rw [HLN.out]; omega) h2
        rw [HLN.out] at HC
        go_wp2_with fail
        refine (HC _ HR.out (cutA_nil HN2.out)).mono ?_
        rintro e w1 ⟨A', cap', rfl, HO, b2⟩
        have HO := Lib.hid (HO.mono HW.size)
        have HW := HW.trans (b2.mono HW.size)
        clear HC b2
        go_wp2_with fail
        go_ret
        exact ⟨A', cap', rfl, HO.out, HW⟩
      · have d1 : decide ((k : Int) < (a.length : Int)) = false := decide_eq_false (by omega)
        clear hab
        go_wp2_with fail
        go_quiet (fail)
        have HW := below_drewN HW nq
        have HN2 : Hid (A = none → ca = 0) := HNIL
        obtain ⟨j, hj⟩ : ∃ j : Nat, j = a.length - k := ⟨_, rfl⟩
        have E : Hid (comF a b = a.drop j) := Lib.hid (by rw [comF, HKN.out, hj])
        have HR := Lib.hid ((HA.out.below HW).drop j ca hca)
        rw [← E.out] at HR
        have HLN : Hid ((comF a b).length = a.length - j) := Lib.hid (by rw [E.out, List.length_drop])
        generalize wr.drewN nq = W at *
        have hsl := fun (A : Option Addr) => slice_from23 A a.length ca j ((a.length : Int) - (k : Int)) (by omega) (by omega)
        have HJ := Lib.hid hj
        clear hj
        have HC := fun A' (h : ReadsS W A' (comF a b)) (h2 : A' = none → ca - j = 0) => Clone_any A' (ca - j) (comF a b) W h (by rw [HLN.out]; omega) h2
        rw [HLN.out] at HC
        go_wp2_with fail
        refine (HC _ HR.out (cutA_nil HN2.out)).mono ?_
        rintro e w1 ⟨A', cap', rfl, HO, b2⟩
        have HO := Lib.hid (HO.mono HW.size)
        have HW := HW.trans (b2.mono HW.size)
        clear HC b2
        go_wp2_with fail
        go_ret
        exact ⟨A', cap', rfl, HO.out, HW⟩

theorem RCommon_any (A B : Option Addr) (ca cb : Nat) (a b : List ByteArray) (w : World) (ha : ReadsS w A a) (hb : ReadsS w B b) (hna : a.length ≤ 1000000) (hnb : b.length ≤ 1000000) (hca : a.length ≤ ca) (hnil : A = none → ca = 0) :
    Calls Tryd.prog 26 #[.slice A a.length ca, .slice B b.length cb] w (Made w (comF a b)) := by
  have HA := Lib.hid ha
  have HB := Lib.hid hb
  have HNIL := Lib.hid hnil
  clear ha hb hnil
  go_enter Tryd.func26, Tryd.ntmps26
  go_wp2_with fail
  go_loopw [5] (fun v wr => ∃ k : Nat, k ≤ a.length ∧ v = .int .i64 k ∧ Hid (∀ j, j < k → eqEnd a b j = true) ∧ Below w.heap.size w wr) (fun v _ => (a.length - intOf v).toNat)
  case atStart => exact ⟨0, by omega, rfl, Lib.hid (fun j hj => by omega), Below.refl _ _⟩
  case round =>
    obtain ⟨k, hk, rfl, HK, HW⟩ := hrel
    by_cases hab : k < a.length ∧ k < b.length
    · obtain ⟨h1, h2⟩ := hab
      have d1 : decide ((k : Int) < (a.length : Int)) = true := decide_eq_true (by omega)
      have d2 : decide ((k : Int) < (b.length : Int)) = true := decide_eq_true (by omega)
      obtain ⟨ix, hix⟩ : ∃ ix : Nat, ix = a.length - 1 - k := ⟨_, rfl⟩
      obtain ⟨iy, hiy⟩ : ∃ iy : Nat, iy = b.length - 1 - k := ⟨_, rfl⟩
      have hxl : ix < a.length := by omega
      have hyl : iy < b.length := by omega
      have E1 : Hid (IntKind.i64.wrap ((a.length : Int) - 1) = (a.length : Int) - 1) := Lib.hid (wraps_i64 _ (by omega) (lt62 (by omega)))
      have E2 : Hid (IntKind.i64.wrap ((b.length : Int) - 1) = (b.length : Int) - 1) := Lib.hid (wraps_i64 _ (by omega) (lt62 (by omega)))
      have E3 : Hid (IntKind.i64.wrap ((a.length : Int) - 1 - (k : Int)) = (ix : Int)) := Lib.hid ((wraps_i64 _ (by omega) (lt62 (by omega))).trans (by omega))
      have E4 : Hid (IntKind.i64.wrap ((b.length : Int) - 1 - (k : Int)) = (iy : Int)) := Lib.hid ((wraps_i64 _ (by omega) (lt62 (by omega))).trans (by omega))
      have i1 : (ix : Int) < (a.length : Int) := by omega
      have i2 : (iy : Int) < (b.length : Int) := by omega
      obtain ⟨b1, o1, hA, hb1, hc1⟩ := (HA.out.below HW).at hxl
      obtain ⟨b2, o2, hB, hb2, hc2⟩ := (HB.out.below HW).at hyl
      have heq : eqEnd a b k = decide (a.getD ix ByteArray.empty = b.getD iy ByteArray.empty) := by
        simp only [eqEnd, decide_eq_true h1, decide_eq_true h2, Bool.true_and, hix, hiy]
      subst hA
      subst hB
      have HIX := Lib.hid hix
      have HIY := Lib.hid hiy
      clear hix hiy
      by_cases he : a.getD ix ByteArray.empty = b.getD iy ByteArray.empty
      · have HK2 := eq_on HK (heq.trans (decide_eq_true he))
        have hne : ((a.getD ix ByteArray.empty).toList == (b.getD iy ByteArray.empty).toList) = true := by rw [beq_str, he]; simp
        clear he heq
        generalize a.getD ix ByteArray.empty = x at *
        generalize b.getD iy ByteArray.empty = y at *
        go_wp2_with fail
        have e1 := E1.out
        have e2 := E2.out
        have e3 := E3.out
        have e4 := E4.out
        go_quiet (fail)
        clear e1 e2 e3 e4
        go_wp2_with fail
        go_roundw
        case rel => exact ⟨k + 1, by omega, by simp, HK2, below_drewN HW _⟩
        case measure => simp [intOf]; omega
      · have HKN := Lib.hid (comN_eq hk HK.out (heq.trans (decide_eq_false he)))
        have hne : ((a.getD ix ByteArray.empty).toList == (b.getD iy ByteArray.empty).toList) = false := by rw [beq_str, decide_eq_false he]
        clear he heq
        generalize a.getD ix ByteArray.empty = x at *
        generalize b.getD iy ByteArray.empty = y at *
        go_wp2_with fail
        have e1 := E1.out
        have e2 := E2.out
        have e3 := E3.out
        have e4 := E4.out
        go_quiet (fail)
        clear e1 e2 e3 e4
        have HW := below_drewN HW nq
        have HN2 : Hid ((some ⟨b1, o1, none⟩ : Option Addr) = none → ca = 0) := HNIL
        obtain ⟨j, hj⟩ : ∃ j : Nat, j = a.length - k := ⟨_, rfl⟩
        have E : Hid (comF a b = a.drop j) := Lib.hid (by rw [comF, HKN.out, hj])
        have HR := Lib.hid ((HA.out.below HW).drop j ca hca)
        rw [← E.out] at HR
        have HLN : Hid ((comF a b).length = a.length - j) := Lib.hid (by rw [E.out, List.length_drop])
        generalize wr.drewN nq = W at *
        have hsl := fun (A : Option Addr) => slice_from22 A a.length ca j ((a.length : Int) - (k : Int)) (by omega) (by omega)
        have HJ := Lib.hid hj
        clear hj
        have b0 : Below W.heap.size W (W.alloc (.cells #[] 9)) := (Below.refl _ _).alloc (Nat.le_refl _) _
        have o0 := own_none W
        go_wp2_with (at_builtin; refine wpList_append_str rfl _ _ 22 Tryd.underlying22 rfl W.heap.size _ [] rfl o0 _ (a.length - j) (ca - j) rfl (comF a b) ?c0 ?c1 ?c2 ?c3 ?c4 (comF a b) rfl ?_)
        case c0 => exact HLN.out
        case c1 => exact HR.out.below b0
        case c2 => exact cutA_nil HN2.out
        case c3 => rw [HLN.out]; simp; omega
        case c4 => simp
        intro A' cap' w2 HO HG
        have B2 := b0.grown HG (by simp) (fun k hk => (o0.blk k hk).1)
        have HO := Lib.hid (HO.mono HW.size)
        have HW := HW.trans (B2.mono HW.size)
        clear HG o0 b0 B2
        go_wp2_with fail
        go_ret
        exact ⟨A', cap', rfl, HO.out, HW⟩
    · have HKN : Hid (comN a b = k) := Lib.hid (comN_eq hk HK.out (by
        by_cases h1 : k < a.length
        · have h2 : ¬ k < b.length := fun h => hab ⟨h1, h⟩
          simp [eqEnd, h2]
        · simp [eqEnd, h1]))
      by_cases h1 : k < a.length
      · have h2 : ¬ k < b.length := fun h => hab ⟨h1, h⟩
        have d1 : decide ((k : Int) < (a.length : Int)) = true := decide_eq_true (by omega)
        have d2 : decide ((k : Int) < (b.length : Int)) = false := decide_eq_false (by omega)
        clear hab
        go_wp2_with fail
        go_quiet (fail)
        have HW := below_drewN HW nq
        have HN2 : Hid (A = none → ca = 0) := HNIL
        obtain ⟨j, hj⟩ : ∃ j : Nat, j = a.length - k := ⟨_, rfl⟩
        have E : Hid (comF a b = a.drop j) := Lib.hid (by rw [comF, HKN.out, hj])
        have HR := Lib.hid ((HA.out.below HW).drop j ca hca)
        rw [← E.out] at HR
        have HLN : Hid ((comF a b).length = a.length - j) := Lib.hid (by rw [E.out, List.length_drop])
        generalize wr.drewN nq = W at *
        have hsl := fun (A : Option Addr) => slice_from22 A a.length ca j ((a.length : Int) - (k : Int)) (by omega) (by omega)
        have HJ := Lib.hid hj
        clear hj
        have b0 : Below W.heap.size W (W.alloc (.cells #[] 9)) := (Below.refl _ _).alloc (Nat.le_refl _) _
        have o0 := own_none W
        go_wp2_with (at_builtin; refine wpList_append_str rfl _ _ 22 Tryd.underlying22 rfl W.heap.size _ [] rfl o0 _ (a.length - j) (ca - j) rfl (comF a b) ?c0 ?c1 ?c2 ?c3 ?c4 (comF a b) rfl ?_)
        case c0 => exact HLN.out
        case c1 => exact HR.out.below b0
        case c2 => exact cutA_nil HN2.out
        case c3 => rw [HLN.out]; simp; omega
        case c4 => simp
        intro A' cap' w2 HO HG
        have B2 := b0.grown HG (by simp) (fun k hk => (o0.blk k hk).1)
        have HO := Lib.hid (HO.mono HW.size)
        have HW := HW.trans (B2.mono HW.size)
        clear HG o0 b0 B2
        go_wp2_with fail
        go_ret
        exact ⟨A', cap', rfl, HO.out, HW⟩
      · have d1 : decide ((k : Int) < (a.length : Int)) = false := decide_eq_false (by omega)
        clear hab
        go_wp2_with fail
        go_quiet (fail)
        have HW := below_drewN HW nq
        have HN2 : Hid (A = none → ca = 0) := HNIL
        obtain ⟨j, hj⟩ : ∃ j : Nat, j = a.length - k := ⟨_, rfl⟩
        have E : Hid (comF a b = a.drop j) := Lib.hid (by rw [comF, HKN.out, hj])
        have HR := Lib.hid ((HA.out.below HW).drop j ca hca)
        rw [← E.out] at HR
        have HLN : Hid ((comF a b).length = a.length - j) := Lib.hid (by rw [E.out, List.length_drop])
        generalize wr.drewN nq = W at *
        have hsl := fun (A : Option Addr) => slice_from22 A a.length ca j ((a.length : Int) - (k : Int)) (by omega) (by omega)
        have HJ := Lib.hid hj
        clear hj
        have b0 : Below W.heap.size W (W.alloc (.cells #[] 9)) := (Below.refl _ _).alloc (Nat.le_refl _) _
        have o0 := own_none W
        go_wp2_with (at_builtin; refine wpList_append_str rfl _ _ 22 Tryd.underlying22 rfl W.heap.size _ [] rfl o0 _ (a.length - j) (ca - j) rfl (comF a b) ?c0 ?c1 ?c2 ?c3 ?c4 (comF a b) rfl ?_)
        case c0 => exact HLN.out
        case c1 => exact HR.out.below b0
        case c2 => exact cutA_nil HN2.out
        case c3 => rw [HLN.out]; simp; omega
        case c4 => simp
        intro A' cap' w2 HO HG
        have B2 := b0.grown HG (by simp) (fun k hk => (o0.blk k hk).1)
        have HO := Lib.hid (HO.mono HW.size)
        have HW := HW.trans (B2.mono HW.size)
        clear HG o0 b0 B2
        go_wp2_with fail
        go_ret
        exact ⟨A', cap', rfl, HO.out, HW⟩

end Go.Proofs.YthkmjelibdgbcaaDoor
