/- Wildmat: characters, by walks through the text of the package and of its reference. -/
import Derived.Test.YtgnmanmlnbidfaaDoorShelf
import Derived.Test.YtgnmanmlnbidfaaDoorRun
import Derived.WalkKit
import Derived.Outline
import Derived.Below
import Derived.OneCell
import Derived.KernelRfl
import Derived.WalkSpells
import Derived.WalkLawsBesides
import Derived.Deep.LoopGhost
import Derived.Lib.Hide
import Derived.Laws.Rows
import Derived.LoopN
import Derived.BigQuiet
import Derived.RegionTactic
import Derived.Deep.DeepCutAuto
import Derived.Deep.CutBlock
import Derived.Deep.QuietTactic
namespace Go.Proofs.YtgnmanmlnbidfaaDoor
open Go.RowKit

def chars (s : ByteArray) : List Nat := s.data.toList.map UInt8.toNat

theorem chars_length (s : ByteArray) : (chars s).length = s.size := by simp [chars]

theorem chars_get (s : ByteArray) (k : Nat) (h : k < s.size) : (s[k]'h).toNat = (chars s).getD k 0 := by
  have h' : k < (chars s).length := by rw [chars_length]; exact h
  rw [List.getD_eq_getElem?_getD, List.getElem?_eq_getElem h']
  simp [chars]
  rfl

theorem chars_mem_lt {s : ByteArray} {c : Nat} (h : c ∈ chars s) : c < 256 := by
  obtain ⟨x, _, rfl⟩ := List.mem_map.1 h
  exact x.toNat_lt

theorem chars_lt (s : ByteArray) (k : Nat) : (chars s).getD k 0 < 256 := by
  rw [List.getD_eq_getElem?_getD]
  cases h : (chars s)[k]? with
  | none => simp
  | some x => exact chars_mem_lt (List.mem_of_getElem? h)

/-- The string of some bytes. -/
def bytesOf (l : List Nat) : ByteArray := ⟨(l.map Nat.toUInt8).toArray⟩

theorem bytes_eq {a b : ByteArray} (h : a.data.toList = b.data.toList) : a = b := ByteArray.ext (Array.ext' h)

theorem bytesOf_chars (s : ByteArray) : bytesOf (chars s) = s := by
  apply bytes_eq
  simp only [bytesOf, chars, List.map_map]
  conv => rhs; rw [← List.map_id s.data.toList]
  apply List.map_congr_left
  intro x _
  simp

theorem chars_inj {a b : ByteArray} (h : chars a = chars b) : a = b := by rw [← bytesOf_chars a, h, bytesOf_chars]

theorem chars_bytesOf {l : List Nat} (h : ∀ c ∈ l, c < 256) : chars (bytesOf l) = l := by
  simp only [bytesOf, chars, List.map_map]
  conv => rhs; rw [← List.map_id l]
  apply List.map_congr_left
  intro x hx
  have := h x hx
  simp only [Function.comp, id, Nat.toUInt8, UInt8.toNat_ofNat']
  omega

theorem bytesOf_size (l : List Nat) : (bytesOf l).size = l.length := by simp [bytesOf, ByteArray.size]

theorem bytesOf_append (a b : List Nat) : bytesOf (a ++ b) = bytesOf a ++ bytesOf b := by
  apply bytes_eq
  simp [bytesOf]

/-- The 40 name characters. -/
def nameS : ByteArray := ⟨#[43, 45, 46, 48, 49, 50, 51, 52, 53, 54, 55, 56, 57, 95, 97, 98, 99, 100, 101, 102, 103, 104, 105, 106, 107, 108, 109, 110, 111, 112, 113, 114, 115, 116, 117, 118, 119, 120, 121, 122]⟩

theorem named_index : ∀ c : Nat, c < 256 → decide (0 ≤ Lib.indexByte nameS.data.toList c.toUInt8) = namedB c := by decide +kernel

/-- IndexByte's answer on any text. -/
theorem index_mem (l : List UInt8) (c : UInt8) : decide (0 ≤ Lib.indexByte l c) = l.contains c := by
  induction l with
  | nil => rfl
  | cons b l ih =>
    have hge := Lib.indexByte_ge l c
    rw [List.contains_cons, Lib.indexByte]
    by_cases h : b = c
    · subst h; simp
    · have h1 : (b == c) = false := by simpa using h
      have h2 : (c == b) = false := by simpa using fun e => h e.symm
      rw [h1, h2, if_neg (by simp), Bool.false_or, ← ih]
      by_cases hm : Lib.indexByte l c = -1
      · rw [hm]; rfl
      · rw [if_neg (by simpa using hm)]
        congr 1
        simp only [eq_iff_iff]; omega

theorem contains_chars (s : List Nat) (hs : ∀ c ∈ s, c < 256) (c : Nat) (hc : c < 256) : (bytesOf s).data.toList.contains c.toUInt8 = s.contains c := by
  rw [Bool.eq_iff_iff, List.contains_iff_mem, List.contains_iff_mem]
  simp only [bytesOf, List.mem_map]
  constructor
  · rintro ⟨d, hd, h⟩
    have h1 := hs d hd
    have h2 := congrArg UInt8.toNat h
    simp only [Nat.toUInt8, UInt8.toNat_ofNat'] at h2
    obtain rfl : c = d := by omega
    exact hd
  · intro h; exact ⟨c, h, rfl⟩

theorem int_toNat (c : Nat) : ((c : Int)).toNat.toUInt8 = c.toUInt8 := rfl

theorem named_any (c : Nat) (hc : c < 256) (w : World) : Calls Tryd.prog 31 #[.int .u8 c] w fun e w' => e = .returned (.bool (namedB c)) ∧ w = w' := by
  have E := Lib.hid (named_index c hc)
  go_enter Tryd.func31, Tryd.ntmps31
  go_wp2_with fail
  refine (Tryd.strings_IndexByte nameS c w).mono ?_
  rintro e w1 ⟨rfl, hw⟩
  have HW := Lib.hid hw
  clear hw
  rw [int_toNat]
  generalize Lib.indexByte nameS.data.toList c.toUInt8 = x at *
  go_wp2_with fail
  go_ret
  exact ⟨by rw [← E.out]; rfl, HW.out.symm⟩

theorem sort_any (c : Nat) (w : World) : Calls Tryd.prog 47 #[.int .u8 c] w fun e w' => e = .returned (.int .i64 (sortF c : Nat)) ∧ w = w' := by
  by_cases h1 : 97 ≤ c <;> by_cases h2 : c ≤ 122 <;> by_cases h3 : 48 ≤ c <;> by_cases h4 : c ≤ 57
  all_goals first
    | (exfalso; omega)
    | (first
         | have d1 : decide ((97 : Int) ≤ (c : Int)) = true := decide_eq_true (by omega)
         | have d1 : decide ((97 : Int) ≤ (c : Int)) = false := decide_eq_false (by omega)
       first
         | have d2 : decide ((c : Int) ≤ 122) = true := decide_eq_true (by omega)
         | have d2 : decide ((c : Int) ≤ 122) = false := decide_eq_false (by omega)
       first
         | have d3 : decide ((48 : Int) ≤ (c : Int)) = true := decide_eq_true (by omega)
         | have d3 : decide ((48 : Int) ≤ (c : Int)) = false := decide_eq_false (by omega)
       first
         | have d4 : decide ((c : Int) ≤ 57) = true := decide_eq_true (by omega)
         | have d4 : decide ((c : Int) ≤ 57) = false := decide_eq_false (by omega)
       first
         | have E : Hid (sortF c = 1) := Lib.hid (by rw [sortF, if_pos (by omega)])
         | have E : Hid (sortF c = 2) := Lib.hid (by rw [sortF, if_neg (by omega), if_pos (by omega)])
         | have E : Hid (sortF c = 0) := Lib.hid (by rw [sortF, if_neg (by omega), if_neg (by omega)])
       clear h1 h2 h3 h4
       go_enter Tryd.func47, Tryd.ntmps47
       go_wp2_with fail
       go_ret
       exact ⟨by rw [E.out]; rfl, rfl⟩)

theorem alnum_any (c : Nat) (w : World) : Calls Tryd.prog 49 #[.int .u8 c] w fun e w' => e = .returned (.int .i64 (sortF c : Nat)) ∧ w = w' := by
  by_cases h1 : 97 ≤ c <;> by_cases h2 : c ≤ 122 <;> by_cases h3 : 48 ≤ c <;> by_cases h4 : c ≤ 57
  all_goals first
    | (exfalso; omega)
    | (first
         | have d1 : decide ((97 : Int) ≤ (c : Int)) = true := decide_eq_true (by omega)
         | have d1 : decide ((97 : Int) ≤ (c : Int)) = false := decide_eq_false (by omega)
       first
         | have d2 : decide ((c : Int) ≤ 122) = true := decide_eq_true (by omega)
         | have d2 : decide ((c : Int) ≤ 122) = false := decide_eq_false (by omega)
       first
         | have d3 : decide ((48 : Int) ≤ (c : Int)) = true := decide_eq_true (by omega)
         | have d3 : decide ((48 : Int) ≤ (c : Int)) = false := decide_eq_false (by omega)
       first
         | have d4 : decide ((c : Int) ≤ 57) = true := decide_eq_true (by omega)
         | have d4 : decide ((c : Int) ≤ 57) = false := decide_eq_false (by omega)
       first
         | have E : Hid (sortF c = 1) := Lib.hid (by rw [sortF, if_pos (by omega)])
         | have E : Hid (sortF c = 2) := Lib.hid (by rw [sortF, if_neg (by omega), if_pos (by omega)])
         | have E : Hid (sortF c = 0) := Lib.hid (by rw [sortF, if_neg (by omega), if_neg (by omega)])
       clear h1 h2 h3 h4
       go_enter Tryd.func49, Tryd.ntmps49
       go_wp2_with fail
       go_ret
       exact ⟨by rw [E.out]; rfl, rfl⟩)

theorem Char_any (c : Nat) (w : World) : Calls Tryd.prog 33 #[.int .u8 c] w fun e w' => e = .returned (.bool (namedB c)) ∧ w = w' := by
  by_cases hs : 0 < sortF c
  · have E : Hid (namedB c = true) := Lib.hid (by
      unfold sortF at hs
      simp only [namedB, Bool.or_eq_true, Bool.and_eq_true, decide_eq_true_eq]
      split at hs
      · omega
      · split at hs
        · omega
        · exact absurd hs (Nat.lt_irrefl _))
    go_enter Tryd.func33, Tryd.ntmps33
    go_wp2_with fail
    refine (alnum_any _ _).mono ?_
    rintro e w1 ⟨rfl, rfl⟩
    generalize sortF c = x at *
    go_wp2_with fail
    go_ret
    exact ⟨by rw [E.out]; rfl, rfl⟩
  · have H0 : Hid (sortF c = 0) := Lib.hid (by omega)
    have E : Hid (namedB c = (((((c : Int) == 43) || ((c : Int) == 45)) || ((c : Int) == 95)) || ((c : Int) == 46))) := Lib.hid (by
      unfold sortF at hs
      rw [Bool.eq_iff_iff]
      simp only [namedB, Bool.or_eq_true, Bool.and_eq_true, decide_eq_true_eq, beq_iff_eq]
      split at hs
      · omega
      · split at hs <;> omega)
    clear hs
    by_cases h1 : c = 43
    · have c1 : ((c : Int) == 43) = true := by simp; omega
      rw [c1] at E
      clear h1
      go_enter Tryd.func33, Tryd.ntmps33
      go_wp2_with fail
      refine (alnum_any _ _).mono ?_
      rintro e w1 ⟨rfl, rfl⟩
      rw [H0.out]
      go_wp2_with fail
      go_ret
      exact ⟨by rw [E.out]; rfl, rfl⟩
    · have c1 : ((c : Int) == 43) = false := by simp; omega
      rw [c1] at E
      clear h1
      by_cases h1 : c = 45
      · have c2 : ((c : Int) == 45) = true := by simp; omega
        rw [c2] at E
        clear h1
        go_enter Tryd.func33, Tryd.ntmps33
        go_wp2_with fail
        refine (alnum_any _ _).mono ?_
        rintro e w1 ⟨rfl, rfl⟩
        rw [H0.out]
        go_wp2_with fail
        go_ret
        exact ⟨by rw [E.out]; rfl, rfl⟩
      · have c2 : ((c : Int) == 45) = false := by simp; omega
        rw [c2] at E
        clear h1
        by_cases h1 : c = 95
        · have c3 : ((c : Int) == 95) = true := by simp; omega
          rw [c3] at E
          clear h1
          go_enter Tryd.func33, Tryd.ntmps33
          go_wp2_with fail
          refine (alnum_any _ _).mono ?_
          rintro e w1 ⟨rfl, rfl⟩
          rw [H0.out]
          go_wp2_with fail
          go_ret
          exact ⟨by rw [E.out]; rfl, rfl⟩
        · have c3 : ((c : Int) == 95) = false := by simp; omega
          rw [c3] at E
          clear h1
          go_enter Tryd.func33, Tryd.ntmps33
          go_wp2_with fail
          refine (alnum_any _ _).mono ?_
          rintro e w1 ⟨rfl, rfl⟩
          rw [H0.out]
          go_wp2_with fail
          go_ret
          exact ⟨by rw [E.out]; rfl, rfl⟩

theorem cut_any (s : ByteArray) (n : Nat) (w : World) : Calls Tryd.prog 11 #[.string s, .int .i64 n] w fun e w' => e = .returned (.string (s.extract 0 (min s.size n))) ∧ w = w' := by
  obtain ⟨m, hm⟩ : ∃ m : Nat, min (s.size : Int) (n : Int) = (m : Int) := ⟨min s.size n, by omega⟩
  have hml : m ≤ s.size := by omega
  have E : Hid (min s.size n = m) := Lib.hid (by omega)
  go_enter Tryd.func11, Tryd.ntmps11
  go_wp2_with fail
  go_ret
  exact ⟨by rw [E.out]; rfl, rfl⟩

/-- A byte of a text. -/
theorem idx_at (s : ByteArray) (j : Nat) (h : j < s.size) (i : Int) (hi : i = (j : Int)) (w : World) : (Instr.index 9 (.string s) (.int .i64 i)).run Tryd.prog w = .ok (.int .u8 ((chars s).getD j 0 : Nat)) w := by
  subst hi
  rw [run_index_string w 9 s .i64 j Tryd.underlying9]
  rw [← chars_get s j h]
  simp [h]

theorem wraps_i64 (n : Int) (h₀ : 0 ≤ n) (h₁ : n < 2 ^ 62) : IntKind.i64.wrap n = n := by
  rw [IntKind.wrap_i64]
  have : (2 : Int) ^ 62 = 4611686018427387904 := by decide
  rw [this] at h₁
  omega

theorem chars_rest (s : ByteArray) (k : Nat) : chars (s.extract k s.size) = (chars s).drop k := by
  unfold chars
  rw [Lib.extract_data, ← List.map_drop, List.take_of_length_le (by simp)]

end Go.Proofs.YtgnmanmlnbidfaaDoor
