/- Route: bytes and the names of sites, by walks through the text of msgid and of its reference. -/
import Derived.Test.YthkmjelibdgbcaaDoorLaid
import Derived.WalkKit
import Derived.Outline
import Derived.Below
import Derived.OneCell
import Derived.KernelRfl
import Derived.WalkSpells
import Derived.WalkLawsBesides
import Derived.Deep.LoopGhost
import Derived.Lib.Hide
import Derived.Laws.Rows
import Derived.LoopN
import Derived.BigQuiet
import Derived.RegionTactic
import Derived.Deep.DeepCutAuto
import Derived.Deep.CutBlock
namespace Go.Proofs.YthkmjelibdgbcaaDoor
open Go.RowKit

def chars (s : ByteArray) : List Nat := s.data.toList.map UInt8.toNat

theorem chars_length (s : ByteArray) : (chars s).length = s.size := by simp [chars]

theorem chars_get (s : ByteArray) (k : Nat) (h : k < s.size) : (s[k]'h).toNat = (chars s).getD k 0 := by
  have h' : k < (chars s).length := by rw [chars_length]; exact h
  rw [List.getD_eq_getElem?_getD, List.getElem?_eq_getElem h']
  simp [chars]
  rfl

def lo (c : Nat) : Bool := decide (97 ≤ c) && decide (c ≤ 122)
def dg (c : Nat) : Bool := decide (48 ≤ c) && decide (c ≤ 57)
def okB (c : Nat) : Bool := lo c || dg c || decide (c = 45) || decide (c = 46)

theorem isLower_any (c : Nat) (w : World) : Calls Tryd.prog 44 #[.int .u8 c] w fun e w' => e = .returned (.bool (lo c)) ∧ w = w' := by
  by_cases h1 : 97 ≤ c
  · have d1 : decide ((97 : Int) ≤ (c : Int)) = true := decide_eq_true (by omega)
    have e : lo c = decide ((c : Int) ≤ 122) := by simp only [lo, h1, decide_true, Bool.true_and]; congr 1; simp only [eq_iff_iff]; omega
    have E := Lib.hid e
    clear e h1
    go_enter Tryd.func44, Tryd.ntmps44
    go_wp2_with fail
    go_ret
    exact ⟨by rw [E.out]; rfl, rfl⟩
  · have d1 : decide ((97 : Int) ≤ (c : Int)) = false := decide_eq_false (by omega)
    have e : lo c = false := by simp [lo, h1]
    have E := Lib.hid e
    clear e h1
    go_enter Tryd.func44, Tryd.ntmps44
    go_wp2_with fail
    go_ret
    exact ⟨by rw [E.out]; rfl, rfl⟩

theorem isDigit_any (c : Nat) (w : World) : Calls Tryd.prog 45 #[.int .u8 c] w fun e w' => e = .returned (.bool (dg c)) ∧ w = w' := by
  by_cases h1 : 48 ≤ c
  · have d1 : decide ((48 : Int) ≤ (c : Int)) = true := decide_eq_true (by omega)
    have e : dg c = decide ((c : Int) ≤ 57) := by simp only [dg, h1, decide_true, Bool.true_and]; congr 1; simp only [eq_iff_iff]; omega
    have E := Lib.hid e
    clear e h1
    go_enter Tryd.func45, Tryd.ntmps45
    go_wp2_with fail
    go_ret
    exact ⟨by rw [E.out]; rfl, rfl⟩
  · have d1 : decide ((48 : Int) ≤ (c : Int)) = false := decide_eq_false (by omega)
    have e : dg c = false := by simp [dg, h1]
    have E := Lib.hid e
    clear e h1
    go_enter Tryd.func45, Tryd.ntmps45
    go_wp2_with fail
    go_ret
    exact ⟨by rw [E.out]; rfl, rfl⟩

theorem permitted_any (c : Nat) (w : World) : Calls Tryd.prog 35 #[.int .u8 c] w fun e w' => e = .returned (.bool (okB c)) ∧ w = w' := by
  by_cases h1 : lo c = true
  · have e : okB c = true := by simp [okB, h1]
    have E := Lib.hid e
    clear e
    go_enter Tryd.func35, Tryd.ntmps35
    go_wp2_with fail
    refine (isLower_any _ _).mono ?_
    rintro e w1 ⟨rfl, rfl⟩
    go_wp2_with fail
    go_ret
    exact ⟨by rw [E.out]; rfl, rfl⟩
  · have h1' : lo c = false := by simpa using h1
    by_cases h2 : dg c = true
    · have e : okB c = true := by simp [okB, h2]
      have E := Lib.hid e
      clear e
      go_enter Tryd.func35, Tryd.ntmps35
      go_wp2_with fail
      refine (isLower_any _ _).mono ?_
      rintro e w1 ⟨rfl, rfl⟩
      go_wp2_with fail
      refine (isDigit_any _ _).mono ?_
      rintro e w1 ⟨rfl, rfl⟩
      go_wp2_with fail
      go_ret
      exact ⟨by rw [E.out]; rfl, rfl⟩
    · have h2' : dg c = false := by simpa using h2
      by_cases h3 : c = 45
      · have d1 : ((c : Int) == 45) = true := by simp [h3]
        have e : okB c = true := by simp [okB, h3]
        have E := Lib.hid e
        clear e h3
        go_enter Tryd.func35, Tryd.ntmps35
        go_wp2_with fail
        refine (isLower_any _ _).mono ?_
        rintro e w1 ⟨rfl, rfl⟩
        go_wp2_with fail
        refine (isDigit_any _ _).mono ?_
        rintro e w1 ⟨rfl, rfl⟩
        go_wp2_with fail
        go_ret
        exact ⟨by rw [E.out]; rfl, rfl⟩
      · have d1 : ((c : Int) == 45) = false := by simp; omega
        have e : okB c = ((c : Int) == 46) := by simp only [okB, h1', h2', h3, decide_false, Bool.false_or]; rw [Bool.eq_iff_iff]; simp; omega
        have E := Lib.hid e
        clear e h3
        go_enter Tryd.func35, Tryd.ntmps35
        go_wp2_with fail
        refine (isLower_any _ _).mono ?_
        rintro e w1 ⟨rfl, rfl⟩
        go_wp2_with fail
        refine (isDigit_any _ _).mono ?_
        rintro e w1 ⟨rfl, rfl⟩
        go_wp2_with fail
        go_ret
        exact ⟨by rw [E.out]; rfl, rfl⟩

def misB (l : List Nat) (i : Nat) : Bool :=
  if i = 0 then !lo (l.getD 0 0) else (decide (l.getD i 0 = 46) && decide (l.getD (i - 1) 0 = 46)) || (decide (i + 1 = l.length) && (decide (l.getD i 0 = 45) || decide (l.getD i 0 = 46)))

theorem misplaced_any (s : ByteArray) (k : Nat) (w : World) (hs : s.size ≤ 30) (hk : k < s.size) : Calls Tryd.prog 36 #[.string s, .int .i64 k] w fun e w' => e = .returned (.bool (misB (chars s) k)) ∧ w = w' := by
  have hl := chars_length s
  have hix := chars_get s k hk
  by_cases h0 : k = 0
  · subst h0
    have e : misB (chars s) 0 = !lo ((chars s).getD 0 0) := rfl
    have E := Lib.hid e
    clear e hl
    generalize (chars s).getD 0 0 = c at *
    go_enter Tryd.func36, Tryd.ntmps36
    go_wp2_with fail
    refine (isLower_any _ _).mono ?_
    rintro e w1 ⟨rfl, rfl⟩
    go_wp2_with fail
    go_ret
    exact ⟨by rw [E.out]; rfl, rfl⟩
  · have b0 : ((k : Int) == 0) = false := by simp; omega
    have hip := chars_get s (k - 1) (Nat.lt_of_le_of_lt (Nat.sub_le _ _) hk)
    have hk1 : k - 1 < s.size := Nat.lt_of_le_of_lt (Nat.sub_le _ _) hk
    have hkk : ((k : Int) - 1) = ((k - 1 : Nat) : Int) := by omega
    have eM : misB (chars s) k = ((decide ((chars s).getD k 0 = 46) && decide ((chars s).getD (k - 1) 0 = 46)) || (decide (k + 1 = s.size) && (decide ((chars s).getD k 0 = 45) || decide ((chars s).getD k 0 = 46)))) := by rw [misB, if_neg h0, hl]
    generalize misB (chars s) k = M at *
    have H0 := Lib.hid h0
    clear hl h0
    generalize (chars s).getD k 0 = c at *
    generalize (chars s).getD (k - 1) 0 = p at *
    by_cases h46 : c = 46
    · have c46 : ((c : Int) == 46) = true := by simp [h46]
      have c45 : ((c : Int) == 45) = false := by simp; omega
      by_cases hp : p = 46
      · have p46 : ((p : Int) == 46) = true := by simp [hp]
        have E : Hid (M = true) := Lib.hid (by rw [eM]; simp [h46, hp])
        clear eM h46 hp
        go_enter Tryd.func36, Tryd.ntmps36
        go_wp2_with fail
        go_ret
        exact ⟨by rw [E.out]; rfl, rfl⟩
      · have p46 : ((p : Int) == 46) = false := by simp; omega
        by_cases hL : k + 1 = s.size
        · have bL : ((k : Int) == (s.size : Int) - 1) = true := by simp; omega
          have E : Hid (M = true) := Lib.hid (by rw [eM]; simp [h46, hL])
          clear eM h46 hp hL
          go_enter Tryd.func36, Tryd.ntmps36
          go_wp2_with fail
          go_ret
          exact ⟨by rw [E.out]; rfl, rfl⟩
        · have bL : ((k : Int) == (s.size : Int) - 1) = false := by simp; omega
          have E : Hid (M = false) := Lib.hid (by rw [eM]; simp [hp, hL])
          clear eM h46 hp hL
          go_enter Tryd.func36, Tryd.ntmps36
          go_wp2_with fail
          go_ret
          exact ⟨by rw [E.out]; rfl, rfl⟩
    · have c46 : ((c : Int) == 46) = false := by simp; omega
      by_cases hL : k + 1 = s.size
      · have bL : ((k : Int) == (s.size : Int) - 1) = true := by simp; omega
        by_cases h45 : c = 45
        · have c45 : ((c : Int) == 45) = true := by simp [h45]
          have E : Hid (M = true) := Lib.hid (by rw [eM]; simp [h45, hL])
          clear eM h46 hL h45
          go_enter Tryd.func36, Tryd.ntmps36
          go_wp2_with fail
          go_ret
          exact ⟨by rw [E.out]; rfl, rfl⟩
        · have c45 : ((c : Int) == 45) = false := by simp; omega
          have E : Hid (M = false) := Lib.hid (by rw [eM]; simp [h45, h46])
          clear eM h46 hL h45
          go_enter Tryd.func36, Tryd.ntmps36
          go_wp2_with fail
          go_ret
          exact ⟨by rw [E.out]; rfl, rfl⟩
      · have bL : ((k : Int) == (s.size : Int) - 1) = false := by simp; omega
        have E : Hid (M = false) := Lib.hid (by rw [eM]; simp [h46, hL])
        clear eM h46 hL
        go_enter Tryd.func36, Tryd.ntmps36
        go_wp2_with fail
        go_ret
        exact ⟨by rw [E.out]; rfl, rfl⟩

def firstI (p : Nat → Bool) (n : Nat) : Option Nat := (List.range n).find? p

theorem firstI_some {p : Nat → Bool} {n i : Nat} (hi : i < n) (hp : p i = true) (hb : ∀ j, j < i → p j = false) : firstI p n = some i := by
  unfold firstI
  rw [List.find?_range_eq_some]
  exact ⟨hp, by simpa using hi, fun j hj => by simp [hb j hj]⟩

theorem firstI_none {p : Nat → Bool} {n : Nat} (hb : ∀ j, j < n → p j = false) : firstI p n = none := by
  unfold firstI
  rw [List.find?_eq_none]
  intro x hx
  simp [hb x (by simpa using hx)]

def siteL (l : List Nat) : Nat × Nat :=
  if l = [] then (0, 4) else if 30 < l.length then (30, 5) else
    match firstI (fun i => !okB (l.getD i 0)) l.length with
    | some i => (i, 6)
    | none => match firstI (misB l) l.length with
      | some i => (i, 12)
      | none => (0, 0)

end Go.Proofs.YthkmjelibdgbcaaDoor
