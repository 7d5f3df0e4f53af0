/- Route: lists of names read in memory: Same, Has, Contains, Check, by walks through their text. -/
import Derived.Test.YthkmjelibdgbcaaDoorSites
import Derived.Laws.AppendOwnNone
import Derived.Laws.AppendOwn
import Derived.Deep.QuietTactic
namespace Go.Proofs.YthkmjelibdgbcaaDoor
open Go.RowKit

abbrev Str := ByteArray

/-- A slice value's elements, as strings. -/
def ReadsS (w : World) (A : Option Addr) (l : List ByteArray) : Prop :=
  l = [] ∨ ∃ b off, A = some ⟨b, off, none⟩ ∧ b < w.heap.size ∧ ∀ i, i < l.length → w.cell? ⟨b, off + i, none⟩ = some (.string (l.getD i ByteArray.empty))

theorem ReadsS.below {w w' : World} {A : Option Addr} {l : List ByteArray} (h : ReadsS w A l) (hb : Below w.heap.size w w') : ReadsS w' A l := by
  rcases h with h | ⟨b, off, h1, h2, h3⟩
  · exact .inl h
  · exact .inr ⟨b, off, h1, Nat.lt_of_lt_of_le h2 hb.size, fun i hi => (hb.cell (p := ⟨b, off + i, none⟩) h2).trans (h3 i hi)⟩

theorem ReadsS.at {w : World} {A : Option Addr} {l : List ByteArray} {k : Nat} (h : ReadsS w A l) (hk : k < l.length) :
    ∃ b off, A = some ⟨b, off, none⟩ ∧ b < w.heap.size ∧ w.cell? ⟨b, off + k, none⟩ = some (.string (l.getD k ByteArray.empty)) := by
  rcases h with h | ⟨b, off, h1, h2, h3⟩
  · subst h; simp at hk
  · exact ⟨b, off, h1, h2, h3 k hk⟩

theorem below_drewN {B : Nat} {a w : World} (h : Below B a w) (n : Nat) : Below B a (w.drewN n) := ⟨h.os, h.tape, h.output, h.size, h.block⟩

theorem nz_no {n : Nat} (h : n = 0) : ((n : Int) != 0) = false := by subst h; rfl
theorem nz_yes {n : Nat} (h : n ≠ 0) : ((n : Int) != 0) = true := by simp only [bne_iff_ne, ne_eq]; omega

theorem getD_drop (l : List ByteArray) (j i : Nat) : (l.drop j).getD i ByteArray.empty = l.getD (j + i) ByteArray.empty := by
  rw [List.getD_eq_getElem?_getD, List.getD_eq_getElem?_getD, List.getElem?_drop]

theorem beq_str (a b : ByteArray) : (a.toList == b.toList) = decide (a = b) := by
  rw [ByteArray.toList_eq, ByteArray.toList_eq, Bool.eq_iff_iff]
  simp only [beq_iff_eq, decide_eq_true_eq]
  constructor
  · intro h
    exact ByteArray.ext (Array.ext' h)
  · intro h; rw [h]

theorem bne_str (a b : ByteArray) : (a.toList != b.toList) = !decide (a = b) := by
  rw [bne, beq_str]

theorem same_at {l m : List ByteArray} (hl : l.length = m.length) (h : ∀ j, j < l.length → l.getD j ByteArray.empty = m.getD j ByteArray.empty) : l = m := by
  apply List.ext_getElem hl
  intro i h1 h2
  have := h i h1
  rw [List.getD_eq_getElem?_getD, List.getD_eq_getElem?_getD, List.getElem?_eq_getElem h1, List.getElem?_eq_getElem h2] at this
  simpa using this

theorem upto_on {P : Nat → Prop} {k : Nat} (H : Hid (∀ j, j < k → P j)) (h : P k) : Hid (∀ j, j < k + 1 → P j) :=
  Lib.hid (fun j hj => by
    rcases Nat.lt_succ_iff_lt_or_eq.1 hj with h' | rfl
    · exact H.out j h'
    · exact h)

theorem Same_any (A B : Option Addr) (ca cb : Nat) (l m : List ByteArray) (w : World) (hl : ReadsS w A l) (hm : ReadsS w B m) (hn : l.length ≤ 1000000) :
    Calls Tryd.prog 13 #[.slice A l.length ca, .slice B m.length cb] w fun e w' => e = .returned (.bool (decide (l = m))) ∧ Below w.heap.size w w' := by
  have HL := Lib.hid hl
  have HM := Lib.hid hm
  clear hl hm
  by_cases hlen : l.length = m.length
  · have LN := Lib.hid hlen
    have bn : ((l.length : Int) != (m.length : Int)) = false := by simp [hlen]
    clear hlen
    go_enter Tryd.func13, Tryd.ntmps13
    go_wp2_with fail
    go_loopw [5] (fun v wr => ∃ k : Nat, k ≤ l.length ∧ v = .int .i64 k ∧ Hid (∀ j, j < k → l.getD j ByteArray.empty = m.getD j ByteArray.empty) ∧ Below w.heap.size w wr) (fun v _ => (l.length - intOf v).toNat)
    case atStart => exact ⟨0, by omega, rfl, Lib.hid (fun j hj => by omega), Below.refl _ _⟩
    case round =>
      obtain ⟨k, hk, rfl, HK, HB⟩ := hrel
      by_cases hlt : k < l.length
      · obtain ⟨b1, o1, hA, hb1, hc1⟩ := (HL.out.below HB).at hlt
        obtain ⟨b2, o2, hB, hb2, hc2⟩ := (HM.out.below HB).at (k := k) (by rw [← LN.out]; exact hlt)
        have hlt2 : k < m.length := by rw [← LN.out]; exact hlt
        have i1 : (k : Int) < (l.length : Int) := by omega
        have i2 : (k : Int) < (m.length : Int) := by omega
        subst hA
        subst hB
        by_cases he : l.getD k ByteArray.empty = m.getD k ByteArray.empty
        · have HK2 := upto_on HK he
          have hne : ((l.getD k ByteArray.empty).toList == (m.getD k ByteArray.empty).toList) = true := by rw [beq_str, he]; simp
          clear he
          generalize l.getD k ByteArray.empty = x at *
          generalize m.getD k ByteArray.empty = y at *
          go_wp2_with fail
          go_quiet (fail)
          go_wp2_with fail
          go_roundw
          case rel => exact ⟨k + 1, by omega, by simp, HK2, below_drewN HB _⟩
          case measure => simp [intOf]; omega
        · have hno : Hid (decide (l = m) = false) := Lib.hid (decide_eq_false (fun e => he (by rw [e])))
          have hne : ((l.getD k ByteArray.empty).toList == (m.getD k ByteArray.empty).toList) = false := by rw [beq_str, decide_eq_false he]
          clear he
          generalize l.getD k ByteArray.empty = x at *
          generalize m.getD k ByteArray.empty = y at *
          go_wp2_with fail
          go_quiet (fail)
          go_wp2_with fail
          go_ret
          exact ⟨by rw [hno.out]; rfl, below_drewN HB _⟩
      · obtain rfl : k = l.length := by omega
        clear hk hlt
        have hyes : Hid (decide (l = m) = true) := Lib.hid (decide_eq_true (same_at LN.out HK.out))
        go_wp2_with fail
        go_ret
        exact ⟨by rw [hyes.out]; rfl, HB⟩
  · have bn : ((l.length : Int) != (m.length : Int)) = true := by simp; omega
    have hno : Hid (decide (l = m) = false) := Lib.hid (decide_eq_false (fun e => hlen (by rw [e])))
    clear hlen
    go_enter Tryd.func13, Tryd.ntmps13
    go_wp2_with fail
    go_ret
    exact ⟨by rw [hno.out]; rfl, Below.refl _ _⟩

theorem mem_at {l : List ByteArray} {k : Nat} (h : k < l.length) : l.getD k ByteArray.empty ∈ l := by
  rw [List.getD_eq_getElem?_getD, List.getElem?_eq_getElem h]
  exact List.getElem_mem h

theorem not_mem_of {l : List ByteArray} {x : ByteArray} (h : ∀ j, j < l.length → l.getD j ByteArray.empty ≠ x) : x ∉ l := by
  intro hx
  obtain ⟨j, hj, e⟩ := List.getElem_of_mem hx
  exact h j hj (by rw [List.getD_eq_getElem?_getD, List.getElem?_eq_getElem hj]; exact e)

def hasB (l : List ByteArray) (x : ByteArray) : Bool := l.any fun y => decide (y = x)

theorem hasB_yes {l : List ByteArray} {k : Nat} {x : ByteArray} (h : k < l.length) (e : l.getD k ByteArray.empty = x) : hasB l x = true := by
  unfold hasB
  rw [List.any_eq_true]
  exact ⟨_, mem_at h, decide_eq_true e⟩

theorem hasB_no {l : List ByteArray} {x : ByteArray} (h : ∀ j, j < l.length → l.getD j ByteArray.empty ≠ x) : hasB l x = false := by
  unfold hasB
  rw [List.any_eq_false]
  intro y hy
  obtain ⟨j, hj, e⟩ := List.getElem_of_mem hy
  have := h j hj
  rw [List.getD_eq_getElem?_getD, List.getElem?_eq_getElem hj, Option.getD_some, e] at this
  simpa using this

theorem Has_any (A : Option Addr) (ca : Nat) (l : List ByteArray) (x : ByteArray) (w : World) (hl : ReadsS w A l) (hn : l.length ≤ 1000000) :
    Calls Tryd.prog 24 #[.slice A l.length ca, .string x] w fun e w' => e = .returned (.bool (hasB l x)) ∧ w = w' := by
  have HL := Lib.hid hl
  clear hl
  go_enter Tryd.func24, Tryd.ntmps24
  go_wp2_with fail
  go_loopw [5] (fun v wr => ∃ k : Nat, k ≤ l.length ∧ v = .int .i64 k ∧ Hid (∀ j, j < k → l.getD j ByteArray.empty ≠ x) ∧ wr = w) (fun v _ => (l.length - intOf v).toNat)
  case atStart => exact ⟨0, by omega, rfl, Lib.hid (fun j hj => by omega), rfl⟩
  case round =>
    obtain ⟨k, hk, rfl, HK, rfl⟩ := hrel
    by_cases hlt : k < l.length
    · obtain ⟨b1, o1, hA, hb1, hc1⟩ := HL.out.at hlt
      subst hA
      by_cases he : l.getD k ByteArray.empty = x
      · have hy := Lib.hid (hasB_yes hlt he)
        have hne : ((l.getD k ByteArray.empty).toList == x.toList) = true := by rw [beq_str, he]; simp
        clear he
        generalize l.getD k ByteArray.empty = y at *
        go_wp2_with fail
        go_ret
        exact ⟨by rw [hy.out]; rfl, rfl⟩
      · have HK2 := upto_on HK he
        have hne : ((l.getD k ByteArray.empty).toList == x.toList) = false := by rw [beq_str, decide_eq_false he]
        clear he
        generalize l.getD k ByteArray.empty = y at *
        go_wp2_with fail
        go_roundw
        case rel => exact ⟨k + 1, by omega, by simp, HK2, trivial⟩
        case measure => simp [intOf]; omega
    · obtain rfl : k = l.length := by omega
      clear hk hlt
      have hno := Lib.hid (hasB_no HK.out)
      go_wp2_with fail
      go_ret
      exact ⟨by rw [hno.out]; rfl, rfl⟩

/-- slices.Index's answer. -/
def indexS (l : List ByteArray) (x : ByteArray) : Int := match firstI (fun i => decide (l.getD i ByteArray.empty = x)) l.length with | some i => (i : Nat) | none => -1

theorem Index_any (A : Option Addr) (ca : Nat) (l : List ByteArray) (x : ByteArray) (w : World) (hl : ReadsS w A l) (hn : l.length ≤ 1000000) :
    Calls Tryd.prog 40 #[.slice A l.length ca, .string x] w fun e w' => (∃ n : Int, e = .returned (.int .i64 n) ∧ Hid (hasB l x = decide (0 ≤ n))) ∧ w = w' := by
  have HL := Lib.hid hl
  clear hl
  go_enter Tryd.func40, Tryd.ntmps40
  go_wp2_with fail
  go_loopw [8] (fun v wr => ∃ k : Nat, k ≤ l.length ∧ v = .int .i64 k ∧ Hid (∀ j, j < k → l.getD j ByteArray.empty ≠ x) ∧ wr = w) (fun v _ => (l.length - intOf v).toNat)
  case atStart => exact ⟨0, by omega, rfl, Lib.hid (fun j hj => by omega), rfl⟩
  case round =>
    obtain ⟨k, hk, rfl, HK, rfl⟩ := hrel
    by_cases hlt : k < l.length
    · obtain ⟨b1, o1, hA, hb1, hc1⟩ := HL.out.at hlt
      subst hA
      by_cases he : l.getD k ByteArray.empty = x
      · have hy := Lib.hid (hasB_yes hlt he)
        have hne : (x.toList == (l.getD k ByteArray.empty).toList) = true := by rw [beq_str, he]; simp
        clear he
        generalize l.getD k ByteArray.empty = y at *
        go_wp2_with fail
        go_ret
        exact ⟨⟨k, rfl, Lib.hid (by rw [hy.out]; exact (decide_eq_true (by omega)).symm)⟩, rfl⟩
      · have HK2 := upto_on HK he
        have hne : (x.toList == (l.getD k ByteArray.empty).toList) = false := by rw [beq_str, decide_eq_false (fun e => he e.symm)]
        clear he
        generalize l.getD k ByteArray.empty = y at *
        go_wp2_with fail
        go_roundw
        case rel => exact ⟨k + 1, by omega, by simp, HK2, trivial⟩
        case measure => simp [intOf]; omega
    · obtain rfl : k = l.length := by omega
      clear hk hlt
      have hno := Lib.hid (hasB_no HK.out)
      go_wp2_with fail
      go_ret
      exact ⟨⟨-1, rfl, Lib.hid (by rw [hno.out]; rfl)⟩, rfl⟩

theorem SContains_any (A : Option Addr) (ca : Nat) (l : List ByteArray) (x : ByteArray) (w : World) (hl : ReadsS w A l) (hn : l.length ≤ 1000000) :
    Calls Tryd.prog 32 #[.slice A l.length ca, .string x] w fun e w' => e = .returned (.bool (hasB l x)) ∧ w = w' := by
  have HL := Lib.hid hl
  clear hl
  go_enter Tryd.func32, Tryd.ntmps32
  go_wp2_with fail
  refine (Index_any A ca l x w HL.out hn).mono ?_
  rintro e w1 ⟨⟨n, rfl, HN⟩, rfl⟩
  go_wp2_with fail
  go_ret
  exact ⟨by rw [HN.out]; rfl, rfl⟩

theorem Contains_any (A : Option Addr) (ca : Nat) (l : List ByteArray) (x : ByteArray) (w : World) (hl : ReadsS w A l) (hn : l.length ≤ 1000000) :
    Calls Tryd.prog 21 #[.slice A l.length ca, .string x] w fun e w' => e = .returned (.bool (hasB l x)) ∧ w = w' := by
  have HL := Lib.hid hl
  clear hl
  go_enter Tryd.func21, Tryd.ntmps21
  go_wp2_with fail
  refine (SContains_any A ca l x w HL.out hn).mono ?_
  rintro e w1 ⟨rfl, rfl⟩
  go_wp2_with fail
  go_ret
  exact ⟨rfl, rfl⟩

/-- The error of the first name that has one. -/
def errsF (l : List ByteArray) : Nat := ((l.map fun x => (siteL (chars x)).2).find? fun e => decide (e ≠ 0)).getD 0

def checkF (l : List ByteArray) : Nat := if 50 < l.length then 9 else errsF l

theorem errsF_hit {l : List ByteArray} {k : Nat} (hk : k < l.length) (h : ∀ j, j < k → (siteL (chars (l.getD j ByteArray.empty))).2 = 0) (e : (siteL (chars (l.getD k ByteArray.empty))).2 ≠ 0) : errsF l = (siteL (chars (l.getD k ByteArray.empty))).2 := by
  induction l generalizing k with
  | nil => simp at hk
  | cons a l ih =>
    cases k with
    | zero =>
      have e' : (siteL (chars a)).2 ≠ 0 := e
      simp [errsF, e']
    | succ k =>
      have h0 : (siteL (chars a)).2 = 0 := h 0 (by omega)
      have := ih (k := k) (by simpa using hk) (fun j hj => h (j + 1) (by omega)) e
      show _ = (siteL (chars (l.getD k ByteArray.empty))).2
      rw [← this]
      simp [errsF, h0]

theorem errsF_none {l : List ByteArray} (h : ∀ j, j < l.length → (siteL (chars (l.getD j ByteArray.empty))).2 = 0) : errsF l = 0 := by
  induction l with
  | nil => rfl
  | cons a l ih =>
    have h0 : (siteL (chars a)).2 = 0 := h 0 (by simp)
    have := ih (fun j hj => h (j + 1) (by simpa using hj))
    rw [← this]
    simp [errsF, h0]

theorem Check_any (A : Option Addr) (ca : Nat) (l : List ByteArray) (w : World) (hl : ReadsS w A l) (hn : l.length ≤ 1000000) :
    Calls Tryd.prog 16 #[.slice A l.length ca] w fun e w' => e = .returned (.int .i64 (checkF l : Nat)) ∧ w = w' := by
  have HL := Lib.hid hl
  clear hl
  by_cases h50 : 50 < l.length
  · have bn : decide ((50 : Int) < (l.length : Int)) = true := decide_eq_true (by omega)
    have E : Hid (checkF l = 9) := Lib.hid (by rw [checkF, if_pos h50])
    clear h50
    go_enter Tryd.func16, Tryd.ntmps16
    go_wp2_with fail
    go_ret
    exact ⟨by rw [E.out]; rfl, rfl⟩
  · have bn : decide ((50 : Int) < (l.length : Int)) = false := decide_eq_false (by omega)
    have E : Hid (checkF l = errsF l) := Lib.hid (by rw [checkF, if_neg h50])
    go_enter Tryd.func16, Tryd.ntmps16
    go_wp2_with fail
    go_loopw [12] (fun v wr => ∃ k : Nat, k ≤ l.length ∧ v = .int .i64 k ∧ Hid (∀ j, j < k → (siteL (chars (l.getD j ByteArray.empty))).2 = 0) ∧ wr = w) (fun v _ => (l.length - intOf v).toNat)
    case atStart => exact ⟨0, by omega, rfl, Lib.hid (fun j hj => by omega), rfl⟩
    case round =>
      obtain ⟨k, hk, rfl, HK, rfl⟩ := hrel
      by_cases hlt : k < l.length
      · obtain ⟨b1, o1, hA, hb1, hc1⟩ := HL.out.at hlt
        subst hA
        by_cases he : (siteL (chars (l.getD k ByteArray.empty))).2 = 0
        · have HK2 := upto_on HK he
          have b0 : (((siteL (chars (l.getD k ByteArray.empty))).2 : Int) != 0) = false := nz_no he
          have HE := Lib.hid he
          clear he
          generalize l.getD k ByteArray.empty = y at *
          go_wp2_with fail
          refine (Site_any y _).mono ?_
          rintro e w1 ⟨rfl, rfl⟩
          generalize siteL (chars y) = st at *
          go_wp2_with fail
          go_roundw
          case rel => exact ⟨k + 1, by omega, by simp, HK2, trivial⟩
          case measure => simp [intOf]; omega
        · have hh := Lib.hid (errsF_hit hlt HK.out he)
          have b0 : (((siteL (chars (l.getD k ByteArray.empty))).2 : Int) != 0) = true := nz_yes he
          clear he
          generalize l.getD k ByteArray.empty = y at *
          go_wp2_with fail
          refine (Site_any y _).mono ?_
          rintro e w1 ⟨rfl, rfl⟩
          generalize siteL (chars y) = st at *
          go_wp2_with fail
          go_ret
          exact ⟨by rw [E.out, hh.out]; rfl, rfl⟩
      · obtain rfl : k = l.length := by omega
        clear hk hlt
        have hno := Lib.hid (errsF_none HK.out)
        go_wp2_with fail
        go_ret
        exact ⟨by rw [E.out, hno.out]; rfl, rfl⟩

theorem RCheck_any (A : Option Addr) (ca : Nat) (l : List ByteArray) (w : World) (hl : ReadsS w A l) (hn : l.length ≤ 1000000) :
    Calls Tryd.prog 17 #[.slice A l.length ca] w fun e w' => e = .returned (.int .i64 (checkF l : Nat)) ∧ w = w' := by
  have HL := Lib.hid hl
  clear hl
  by_cases h50 : 50 < l.length
  · have bn : decide ((50 : Int) < (l.length : Int)) = true := decide_eq_true (by omega)
    have E : Hid (checkF l = 9) := Lib.hid (by rw [checkF, if_pos h50])
    clear h50
    go_enter Tryd.func17, Tryd.ntmps17
    go_wp2_with fail
    go_ret
    exact ⟨by rw [E.out]; rfl, rfl⟩
  · have bn : decide ((50 : Int) < (l.length : Int)) = false := decide_eq_false (by omega)
    have E : Hid (checkF l = errsF l) := Lib.hid (by rw [checkF, if_neg h50])
    go_enter Tryd.func17, Tryd.ntmps17
    go_wp2_with fail
    go_loopw [3] (fun v wr => ∃ k : Nat, k ≤ l.length ∧ v = .int .i64 k ∧ Hid (∀ j, j < k → (siteL (chars (l.getD j ByteArray.empty))).2 = 0) ∧ wr = w) (fun v _ => (l.length - intOf v).toNat)
    case atStart => exact ⟨0, by omega, rfl, Lib.hid (fun j hj => by omega), rfl⟩
    case round =>
      obtain ⟨k, hk, rfl, HK, rfl⟩ := hrel
      by_cases hlt : k < l.length
      · obtain ⟨b1, o1, hA, hb1, hc1⟩ := HL.out.at hlt
        subst hA
        by_cases he : (siteL (chars (l.getD k ByteArray.empty))).2 = 0
        · have HK2 := upto_on HK he
          have b0 : (((siteL (chars (l.getD k ByteArray.empty))).2 : Int) != 0) = false := nz_no he
          have HE := Lib.hid he
          clear he
          generalize l.getD k ByteArray.empty = y at *
          go_wp2_with fail
          refine (RSite_any y _).mono ?_
          rintro e w1 ⟨rfl, rfl⟩
          generalize siteL (chars y) = st at *
          go_wp2_with fail
          go_roundw
          case rel => exact ⟨k + 1, by omega, by simp, HK2, trivial⟩
          case measure => simp [intOf]; omega
        · have hh := Lib.hid (errsF_hit hlt HK.out he)
          have b0 : (((siteL (chars (l.getD k ByteArray.empty))).2 : Int) != 0) = true := nz_yes he
          clear he
          generalize l.getD k ByteArray.empty = y at *
          go_wp2_with fail
          refine (RSite_any y _).mono ?_
          rintro e w1 ⟨rfl, rfl⟩
          generalize siteL (chars y) = st at *
          go_wp2_with fail
          go_ret
          exact ⟨by rw [E.out, hh.out]; rfl, rfl⟩
      · obtain rfl : k = l.length := by omega
        clear hk hlt
        have hno := Lib.hid (errsF_none HK.out)
        go_wp2_with fail
        go_ret
        exact ⟨by rw [E.out, hno.out]; rfl, rfl⟩

end Go.Proofs.YthkmjelibdgbcaaDoor
