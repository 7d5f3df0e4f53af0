/- Route: the names of a route's text, as plain lists. -/
import Derived.Test.YthkmjelibdgbcaaDoorPrep
import Derived.Lib.SplitLaws
namespace Go.Proofs.YthkmjelibdgbcaaDoor
open Go.RowKit

def bang : ByteArray := ⟨#[33]⟩

def names (s : ByteArray) : List ByteArray := Lib.splitB bang 0 (Lib.countB s bang) s

theorem names_length (s : ByteArray) : (names s).length = Lib.countB s bang + 1 := Lib.splitB_all bang (by decide) 0 _ s rfl

theorem occ_iff (l : List UInt8) (i : Nat) : Lib.occAt l [33] i = true ↔ l[i]? = some 33 := by
  unfold Lib.occAt
  rw [List.isPrefixOf_iff_prefix]
  constructor
  · rintro ⟨r, hr⟩
    have : (l.drop i)[0]? = some 33 := by rw [← hr]; rfl
    simpa using this
  · intro h
    have hi : i < l.length := by
      rcases Nat.lt_or_ge i l.length with h' | h'
      · exact h'
      · rw [List.getElem?_eq_none h'] at h; cases h
    refine ⟨l.drop (i + 1), ?_⟩
    rw [List.drop_eq_getElem_cons hi]
    rw [List.getElem?_eq_getElem hi] at h
    rw [Option.some.inj h]; rfl

theorem indexB_first {s : ByteArray} {i : Nat} (hi : s.data.toList[i]? = some 33) (h : ∀ j, j < i → s.data.toList[j]? ≠ some 33) : Lib.indexB s bang = i := by
  have hlt : i < s.data.toList.length := by
    rcases Nat.lt_or_ge i s.data.toList.length with h' | h'
    · exact h'
    · rw [List.getElem?_eq_none h'] at hi; cases hi
  exact Lib.index_first (by omega) ((occ_iff _ _).2 hi) (fun j hj => by
    cases e : Lib.occAt s.data.toList [33] j with
    | false => exact e
    | true => exact absurd ((occ_iff _ _).1 e) (h j hj))

theorem indexB_none {s : ByteArray} (h : ∀ j : Nat, s.data.toList[j]? ≠ some 33) : Lib.indexB s bang = -1 :=
  Lib.index_none (fun j _ => by
    cases e : Lib.occAt s.data.toList [33] j with
    | false => exact e
    | true => exact absurd ((occ_iff _ _).1 e) (h j))

theorem names_miss {s : ByteArray} (h : ∀ j : Nat, s.data.toList[j]? ≠ some 33) : names s = [s] := Lib.splitB_miss _ _ _ _ (indexB_none h)

theorem names_hit {s : ByteArray} {i : Nat} (hi : s.data.toList[i]? = some 33) (h : ∀ j, j < i → s.data.toList[j]? ≠ some 33) : names s = s.extract 0 i :: names (s.extract (i + 1) s.size) := by
  have e := indexB_first hi h
  have hc := Lib.countB_hit s bang i (by decide) e
  unfold names
  rw [hc, Nat.add_comm, Lib.splitB_hit _ _ _ _ _ e]
  rfl

theorem bytes_eq {a b : ByteArray} (h : a.data.toList = b.data.toList) : a = b := ByteArray.ext (Array.ext' h)

theorem ch_iff (s : ByteArray) (j : Nat) : s.data.toList[j]? = some 33 ↔ (chars s).getD j 0 = 33 := by
  rw [chars, List.getD_eq_getElem?_getD, List.getElem?_map]
  cases h : s.data.toList[j]? with
  | none => simp
  | some x =>
    simp only [Option.some.injEq, Option.map_some, Option.getD_some]
    constructor
    · intro e; rw [e]; rfl
    · intro e; exact UInt8.toNat.inj (by rw [e]; rfl)

/-- The rest of a text from a byte on. -/
def rest (s : ByteArray) (a : Nat) : ByteArray := s.extract a s.size

theorem rest_get (s : ByteArray) (a j : Nat) : (rest s a).data.toList[j]? = s.data.toList[a + j]? := by
  rw [rest, Lib.extract_data]
  rcases Nat.lt_or_ge j (s.size - a) with h | h
  · rw [List.getElem?_take_of_lt h, List.getElem?_drop]
  · have hs : s.data.toList.length = s.size := by simp
    rw [List.getElem?_eq_none (by simp; omega), List.getElem?_eq_none (by omega)]

theorem rest_zero (s : ByteArray) : rest s 0 = s := by
  apply bytes_eq
  rw [rest, Lib.extract_data, List.drop_zero, Nat.sub_zero, List.take_of_length_le (by simp)]

theorem rest_head (s : ByteArray) (a i : Nat) (h1 : a ≤ i) (h2 : i ≤ s.size) : (rest s a).extract 0 (i - a) = s.extract a i := by
  apply bytes_eq
  rw [rest, Lib.extract_data, Lib.extract_data, Lib.extract_data]
  simp only [List.drop_zero, Nat.sub_zero, List.take_take]
  congr 1
  omega

theorem rest_size (s : ByteArray) (a : Nat) : (rest s a).size = s.size - a := by
  rw [rest, ByteArray.size_extract]; omega

theorem rest_rest (s : ByteArray) (a i : Nat) (h1 : a ≤ i) (h2 : i < s.size) : (rest s a).extract (i - a + 1) (rest s a).size = rest s (i + 1) := by
  apply bytes_eq
  rw [rest_size, rest, rest, Lib.extract_data, Lib.extract_data, Lib.extract_data]
  rw [List.drop_take, List.drop_drop, List.take_take]
  congr 1
  · omega
  · congr 1; omega

theorem names_rest_hit {s : ByteArray} {a i : Nat} (h1 : a ≤ i) (h2 : i < s.size) (hi : (chars s).getD i 0 = 33) (h : ∀ j, a ≤ j → j < i → (chars s).getD j 0 ≠ 33) :
    names (rest s a) = s.extract a i :: names (rest s (i + 1)) := by
  rw [names_hit (i := i - a) (by rw [rest_get, show a + (i - a) = i by omega]; exact (ch_iff s i).2 hi) (fun j hj => by
    rw [rest_get]; intro e; exact h (a + j) (by omega) (by omega) ((ch_iff s _).1 e))]
  rw [rest_head s a i h1 (by omega), rest_rest s a i h1 h2]

theorem names_rest_miss {s : ByteArray} {a : Nat} (h : ∀ j, a ≤ j → j < s.size → (chars s).getD j 0 ≠ 33) : names (rest s a) = [s.extract a s.size] :=
  names_miss (fun j e => by
    rw [rest_get] at e
    have hl : s.data.toList.length = s.size := by simp
    have hj : a + j < s.size := by
      rcases Nat.lt_or_ge (a + j) s.size with h' | h'
      · exact h'
      · rw [List.getElem?_eq_none (by omega)] at e; cases e
    exact h (a + j) (by omega) hj ((ch_iff s _).1 e))

/-- Parse, name by name: the names so far, the offset. -/
def parseGo : List ByteArray → Nat → List ByteArray → List ByteArray × Nat × Nat
  | out, _, [] => (out, 0, 0)
  | out, a, x :: xs => if out.length = 50 then ([], a, 9) else if (siteL (chars x)).2 ≠ 0 then ([], a + (siteL (chars x)).1, (siteL (chars x)).2) else parseGo (out ++ [x]) (a + x.size + 1) xs

def parseF (s : ByteArray) : List ByteArray × Nat × Nat := if s.size = 0 then ([], 0, 0) else parseGo [] 0 (names s)

end Go.Proofs.YthkmjelibdgbcaaDoor
