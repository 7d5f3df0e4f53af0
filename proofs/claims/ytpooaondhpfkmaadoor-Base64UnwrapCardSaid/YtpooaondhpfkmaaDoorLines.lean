/- Base64: the lines of a text, as plain lists. -/
import Derived.Test.YtpooaondhpfkmaaDoorApi
import Derived.Test.YtpooaondhpfkmaaDoorShelf
import Derived.Lib.SplitLaws
import Derived.Lib.Join
namespace Go.Proofs.YtpooaondhpfkmaaDoor
open Go.RowKit

def nl : ByteArray := ⟨#[10]⟩

def lines (s : ByteArray) : List ByteArray := Lib.splitB nl 0 (Lib.countB s nl) s

theorem lines_length (s : ByteArray) : (lines s).length = Lib.countB s nl + 1 := Lib.splitB_all nl (by decide) 0 _ s rfl

theorem occ_iff (l : List UInt8) (i : Nat) : Lib.occAt l [10] i = true ↔ l[i]? = some 10 := by
  unfold Lib.occAt
  rw [List.isPrefixOf_iff_prefix]
  constructor
  · rintro ⟨r, hr⟩
    have : (l.drop i)[0]? = some 10 := by rw [← hr]; rfl
    simpa using this
  · intro h
    have hi : i < l.length := by
      rcases Nat.lt_or_ge i l.length with h' | h'
      · exact h'
      · rw [List.getElem?_eq_none h'] at h; cases h
    refine ⟨l.drop (i + 1), ?_⟩
    rw [List.drop_eq_getElem_cons hi]
    rw [List.getElem?_eq_getElem hi] at h
    rw [Option.some.inj h]; rfl

theorem indexB_first {s : ByteArray} {i : Nat} (hi : s.data.toList[i]? = some 10) (h : ∀ j, j < i → s.data.toList[j]? ≠ some 10) : Lib.indexB s nl = i := by
  have hlt : i < s.data.toList.length := by
    rcases Nat.lt_or_ge i s.data.toList.length with h' | h'
    · exact h'
    · rw [List.getElem?_eq_none h'] at hi; cases hi
  exact Lib.index_first (by omega) ((occ_iff _ _).2 hi) (fun j hj => by
    cases e : Lib.occAt s.data.toList [10] j with
    | false => exact e
    | true => exact absurd ((occ_iff _ _).1 e) (h j hj))

theorem indexB_none {s : ByteArray} (h : ∀ j : Nat, s.data.toList[j]? ≠ some 10) : Lib.indexB s nl = -1 :=
  Lib.index_none (fun j _ => by
    cases e : Lib.occAt s.data.toList [10] j with
    | false => exact e
    | true => exact absurd ((occ_iff _ _).1 e) (h j))

theorem lines_miss {s : ByteArray} (h : ∀ j : Nat, s.data.toList[j]? ≠ some 10) : lines s = [s] := Lib.splitB_miss _ _ _ _ (indexB_none h)

theorem lines_hit {s : ByteArray} {i : Nat} (hi : s.data.toList[i]? = some 10) (h : ∀ j, j < i → s.data.toList[j]? ≠ some 10) : lines s = s.extract 0 i :: lines (s.extract (i + 1) s.size) := by
  have e := indexB_first hi h
  have hc := Lib.countB_hit s nl i (by decide) e
  unfold lines
  rw [hc, Nat.add_comm, Lib.splitB_hit _ _ _ _ _ e]
  rfl

theorem bytes_eq {a b : ByteArray} (h : a.data.toList = b.data.toList) : a = b := ByteArray.ext (Array.ext' h)

theorem ch_iff (s : ByteArray) (j : Nat) : s.data.toList[j]? = some 10 ↔ (chars s).getD j 0 = 10 := by
  rw [chars, List.getD_eq_getElem?_getD, List.getElem?_map]
  cases h : s.data.toList[j]? with
  | none => simp
  | some x =>
    simp only [Option.some.injEq, Option.map_some, Option.getD_some]
    constructor
    · intro e; rw [e]; rfl
    · intro e; exact UInt8.toNat.inj (by rw [e]; rfl)

/-- The rest of a text from a byte on. -/
def rest (s : ByteArray) (a : Nat) : ByteArray := s.extract a s.size

theorem rest_get (s : ByteArray) (a j : Nat) : (rest s a).data.toList[j]? = s.data.toList[a + j]? := by
  rw [rest, Lib.extract_data]
  rcases Nat.lt_or_ge j (s.size - a) with h | h
  · rw [List.getElem?_take_of_lt h, List.getElem?_drop]
  · have hs : s.data.toList.length = s.size := by simp
    rw [List.getElem?_eq_none (by simp; omega), List.getElem?_eq_none (by omega)]

theorem rest_zero (s : ByteArray) : rest s 0 = s := by
  apply bytes_eq
  rw [rest, Lib.extract_data, List.drop_zero, Nat.sub_zero, List.take_of_length_le (by simp)]

theorem rest_head (s : ByteArray) (a i : Nat) (h1 : a ≤ i) (h2 : i ≤ s.size) : (rest s a).extract 0 (i - a) = s.extract a i := by
  apply bytes_eq
  rw [rest, Lib.extract_data, Lib.extract_data, Lib.extract_data]
  simp only [List.drop_zero, Nat.sub_zero, List.take_take]
  congr 1
  omega

theorem rest_size (s : ByteArray) (a : Nat) : (rest s a).size = s.size - a := by
  rw [rest, ByteArray.size_extract]; omega

theorem rest_rest (s : ByteArray) (a i : Nat) (h1 : a ≤ i) (h2 : i < s.size) : (rest s a).extract (i - a + 1) (rest s a).size = rest s (i + 1) := by
  apply bytes_eq
  rw [rest_size, rest, rest, Lib.extract_data, Lib.extract_data, Lib.extract_data]
  rw [List.drop_take, List.drop_drop, List.take_take]
  congr 1
  · omega
  · congr 1; omega

theorem lines_rest_hit {s : ByteArray} {a i : Nat} (h1 : a ≤ i) (h2 : i < s.size) (hi : (chars s).getD i 0 = 10) (h : ∀ j, a ≤ j → j < i → (chars s).getD j 0 ≠ 10) :
    lines (rest s a) = s.extract a i :: lines (rest s (i + 1)) := by
  rw [lines_hit (i := i - a) (by rw [rest_get, show a + (i - a) = i by omega]; exact (ch_iff s i).2 hi) (fun j hj => by
    rw [rest_get]; intro e; exact h (a + j) (by omega) (by omega) ((ch_iff s _).1 e))]
  rw [rest_head s a i h1 (by omega), rest_rest s a i h1 h2]

theorem lines_rest_miss {s : ByteArray} {a : Nat} (h : ∀ j, a ≤ j → j < s.size → (chars s).getD j 0 ≠ 10) : lines (rest s a) = [s.extract a s.size] :=
  lines_miss (fun j e => by
    rw [rest_get] at e
    have hl : s.data.toList.length = s.size := by simp
    have hj : a + j < s.size := by
      rcases Nat.lt_or_ge (a + j) s.size with h' | h'
      · exact h'
      · rw [List.getElem?_eq_none (by omega)] at e; cases e
    exact h (a + j) (by omega) hj ((ch_iff s _).1 e))

def ReadsS (w : World) (A : Option Addr) (l : List ByteArray) : Prop :=
  l = [] ∨ ∃ b off, A = some ⟨b, off, none⟩ ∧ b < w.heap.size ∧ ∀ i, i < l.length → w.cell? ⟨b, off + i, none⟩ = some (.string (l.getD i ByteArray.empty))

theorem ReadsS.below {w w' : World} {A : Option Addr} {l : List ByteArray} (h : ReadsS w A l) (hb : Below w.heap.size w w') : ReadsS w' A l := by
  rcases h with h | ⟨b, off, h1, h2, h3⟩
  · exact .inl h
  · exact .inr ⟨b, off, h1, Nat.lt_of_lt_of_le h2 hb.size, fun i hi => (hb.cell (p := ⟨b, off + i, none⟩) h2).trans (h3 i hi)⟩

theorem ReadsS.at {w : World} {A : Option Addr} {l : List ByteArray} {k : Nat} (h : ReadsS w A l) (hk : k < l.length) :
    ∃ b off, A = some ⟨b, off, none⟩ ∧ b < w.heap.size ∧ w.cell? ⟨b, off + k, none⟩ = some (.string (l.getD k ByteArray.empty)) := by
  rcases h with h | ⟨b, off, h1, h2, h3⟩
  · subst h; simp at hk
  · exact ⟨b, off, h1, h2, h3 k hk⟩

theorem reads_names (w : World) (l : List ByteArray) : ReadsS (w.alloc (.cells (l.map Value.string).toArray 9)) (some ⟨w.heap.size, 0, none⟩) l := by
  refine .inr ⟨w.heap.size, 0, rfl, by simp, fun i hi => ?_⟩
  have h := heap_alloc_new w (.cells (l.map Value.string).toArray 9)
  simp only [World.cell?, h, Nat.zero_add]
  simp [hi, List.getD_eq_getElem?_getD]

theorem ok_or (b : Bool) : b = true ∨ b = false := by cases b <;> simp

theorem isEmpty_dec (s : ByteArray) : s.toList.isEmpty = decide (s.size = 0) := by
  rw [ByteArray.toList_eq]
  have hl : s.data.toList.length = s.size := by simp
  rw [Bool.eq_iff_iff, List.isEmpty_iff, decide_eq_true_eq, ← hl]
  exact List.length_eq_zero_iff.symm

/-- Is a line of n bytes wrong, the first line having W? -/
def badL (W n : Nat) (last : Bool) : Bool := decide (n = 0) || decide (998 < n) || decide (W < n) || (decide (n < W) && !last)

theorem badL_of {W n : Nat} {last e f g p q : Bool} (he : decide (n = 0) = e) (hf : decide ((998 : Int) < (n : Int)) = f) (hg : decide ((W : Int) < (n : Int)) = g) (hp : decide ((n : Int) < (W : Int)) = p) (hq : last = !q) :
    badL W n last = (e || f || g || (p && q)) := by
  have e1 : decide (998 < n) = f := by rw [← hf, Bool.eq_iff_iff]; simp only [decide_eq_true_eq]; omega
  have e2 : decide (W < n) = g := by rw [← hg, Bool.eq_iff_iff]; simp only [decide_eq_true_eq]; omega
  have e3 : decide (n < W) = p := by rw [← hp, Bool.eq_iff_iff]; simp only [decide_eq_true_eq]; omega
  unfold badL
  rw [he, e1, e2, e3, hq, Bool.not_not]

def unwGo (W : Nat) : ByteArray → Nat → List ByteArray → ByteArray × Nat × Nat
  | out, _, [] => (out, 0, 0)
  | out, a, x :: xs => if badL W x.size xs.isEmpty = true then (ByteArray.empty, a, 3) else unwGo W (out ++ x) (a + x.size + 1) xs

def widthF (l : List ByteArray) : Nat := (l.getD 0 ByteArray.empty).size

def unwF (s : ByteArray) : ByteArray × Nat × Nat :=
  if s.size = 0 then (ByteArray.empty, 0, 0) else if (chars s).getD (s.size - 1) 0 ≠ 10 then (ByteArray.empty, s.size, 4) else
    unwGo (widthF (lines (s.extract 0 (s.size - 1)))) ByteArray.empty 0 (lines (s.extract 0 (s.size - 1)))

theorem unwGo_at {W : Nat} {l : List ByteArray} {k : Nat} (hk : k < l.length) (out : ByteArray) (a : Nat) :
    unwGo W out a (l.drop k) = if badL W (l.getD k ByteArray.empty).size (decide (l.length ≤ k + 1)) = true then (ByteArray.empty, a, 3) else unwGo W (out ++ l.getD k ByteArray.empty) (a + (l.getD k ByteArray.empty).size + 1) (l.drop (k + 1)) := by
  have e : (l.drop (k + 1)).isEmpty = decide (l.length ≤ k + 1) := by
    rw [Bool.eq_iff_iff, List.isEmpty_iff, List.drop_eq_nil_iff]; simp
  rw [List.drop_eq_getElem_cons hk]
  simp only [unwGo, List.getD_eq_getElem?_getD, List.getElem?_eq_getElem hk, Option.getD_some, e]

def dl (l : List ByteArray) : List (List UInt8) := l.map (·.data.toList)
/-- The lines, joined. -/
def catF (l : List ByteArray) : ByteArray := ⟨(Lib.join (dl l) []).toArray⟩

theorem join_empty : ∀ l : List (List UInt8), Lib.join l [] = l.flatten := by
  intro l
  cases l with
  | nil => rfl
  | cons a l =>
    rw [Lib.join_cons]
    simp [Lib.joinTail]

theorem catF_next {l : List ByteArray} {k : Nat} (hk : k < l.length) : catF (l.take (k + 1)) = catF (l.take k) ++ l.getD k ByteArray.empty := by
  apply bytes_eq
  have e : (catF (l.take k) ++ l.getD k ByteArray.empty).data.toList = (catF (l.take k)).data.toList ++ (l.getD k ByteArray.empty).data.toList := by simp
  rw [e]
  simp only [catF, join_empty, dl]
  rw [List.take_succ_eq_append_getElem hk, List.map_append, List.flatten_append]
  simp [List.getD_eq_getElem?_getD, hk]

theorem catF_cons (x : ByteArray) (l : List ByteArray) : (catF (x :: l)).size = x.size + (catF l).size := by
  have h : ∀ l : List ByteArray, (catF l).size = ((dl l).flatten).length := fun l => by simp [catF, ByteArray.size, join_empty]
  rw [h, h]
  simp [dl]

theorem first_nl (s : ByteArray) : (∀ j : Nat, s.data.toList[j]? ≠ some 10) ∨ ∃ i : Nat, s.data.toList[i]? = some 10 ∧ ∀ j : Nat, j < i → s.data.toList[j]? ≠ some 10 := by
  rcases Lib.index_spec s.data.toList [10] with ⟨_, h⟩ | ⟨i, _, _, hi, h⟩
  · left
    intro j e
    rcases Nat.lt_or_ge s.data.toList.length j with h' | h'
    · rw [List.getElem?_eq_none (by omega)] at e; cases e
    · have := h j h'
      rw [(occ_iff _ _).2 e] at this
      cases this
  · right
    refine ⟨i, (occ_iff _ _).1 hi, fun j hj e => ?_⟩
    have := h j hj
    rw [(occ_iff _ _).2 e] at this
    cases this

theorem cat_lines (n : Nat) : ∀ s : ByteArray, s.size ≤ n → (catF (lines s)).size ≤ s.size := by
  have h1 : ∀ x : ByteArray, (catF [x]).size = x.size := fun x => by rw [catF_cons]; rfl
  induction n with
  | zero =>
    intro s hs
    have hl : s.data.toList.length = s.size := by simp
    rw [lines_miss (fun j e => by rw [List.getElem?_eq_none (by omega)] at e; cases e), h1]
    exact Nat.le_refl _
  | succ n ih =>
    intro s hs
    rcases first_nl s with h | ⟨i, hi, h⟩
    · rw [lines_miss h, h1]
      exact Nat.le_refl _
    · have hl : s.data.toList.length = s.size := by simp
      have hlt : i < s.size := by
        rcases Nat.lt_or_ge i s.size with h' | h'
        · exact h'
        · rw [List.getElem?_eq_none (by omega)] at hi; cases hi
      rw [lines_hit hi h, catF_cons]
      have hr : s.extract (i + 1) s.size = rest s (i + 1) := rfl
      have := ih (rest s (i + 1)) (by rw [rest_size]; omega)
      rw [hr, ByteArray.size_extract]
      rw [rest_size] at this
      omega

theorem lines_le (s : ByteArray) : (lines s).length ≤ s.size + 2 := by
  rw [lines_length]
  have := Lib.count_le s.data.toList nl.data.toList
  have hl : s.data.toList.length = s.size := by simp
  show Lib.count s.data.toList nl.data.toList + 1 ≤ _
  omega

end Go.Proofs.YtpooaondhpfkmaaDoor
