/- Wildmat: the parts of a list, and what a list denotes, as plain lists. -/
import Derived.Test.YtgnmanmlnbidfaaDoorComp
import Derived.Test.YtgnmanmlnbidfaaDoorMatch
import Derived.Lib.SplitLaws
import Derived.Lib.Join
namespace Go.Proofs.YtgnmanmlnbidfaaDoor
open Go.RowKit

def cm : ByteArray := ⟨#[44]⟩

def commas (s : ByteArray) : List ByteArray := Lib.splitB cm 0 (Lib.countB s cm) s

theorem commas_length (s : ByteArray) : (commas s).length = Lib.countB s cm + 1 := Lib.splitB_all cm (by decide) 0 _ s rfl

theorem occ_iff (l : List UInt8) (i : Nat) : Lib.occAt l [44] i = true ↔ l[i]? = some 44 := by
  unfold Lib.occAt
  rw [List.isPrefixOf_iff_prefix]
  constructor
  · rintro ⟨r, hr⟩
    have : (l.drop i)[0]? = some 44 := by rw [← hr]; rfl
    simpa using this
  · intro h
    have hi : i < l.length := by
      rcases Nat.lt_or_ge i l.length with h' | h'
      · exact h'
      · rw [List.getElem?_eq_none h'] at h; cases h
    refine ⟨l.drop (i + 1), ?_⟩
    rw [List.drop_eq_getElem_cons hi]
    rw [List.getElem?_eq_getElem hi] at h
    rw [Option.some.inj h]; rfl

theorem indexB_first {s : ByteArray} {i : Nat} (hi : s.data.toList[i]? = some 44) (h : ∀ j, j < i → s.data.toList[j]? ≠ some 44) : Lib.indexB s cm = i := by
  have hlt : i < s.data.toList.length := by
    rcases Nat.lt_or_ge i s.data.toList.length with h' | h'
    · exact h'
    · rw [List.getElem?_eq_none h'] at hi; cases hi
  exact Lib.index_first (by omega) ((occ_iff _ _).2 hi) (fun j hj => by
    cases e : Lib.occAt s.data.toList [44] j with
    | false => exact e
    | true => exact absurd ((occ_iff _ _).1 e) (h j hj))

theorem indexB_none {s : ByteArray} (h : ∀ j : Nat, s.data.toList[j]? ≠ some 44) : Lib.indexB s cm = -1 :=
  Lib.index_none (fun j _ => by
    cases e : Lib.occAt s.data.toList [44] j with
    | false => exact e
    | true => exact absurd ((occ_iff _ _).1 e) (h j))

theorem commas_miss {s : ByteArray} (h : ∀ j : Nat, s.data.toList[j]? ≠ some 44) : commas s = [s] := Lib.splitB_miss _ _ _ _ (indexB_none h)

theorem commas_hit {s : ByteArray} {i : Nat} (hi : s.data.toList[i]? = some 44) (h : ∀ j, j < i → s.data.toList[j]? ≠ some 44) : commas s = s.extract 0 i :: commas (s.extract (i + 1) s.size) := by
  have e := indexB_first hi h
  have hc := Lib.countB_hit s cm i (by decide) e
  unfold commas
  rw [hc, Nat.add_comm, Lib.splitB_hit _ _ _ _ _ e]
  rfl

theorem ch_iff (s : ByteArray) (j : Nat) : s.data.toList[j]? = some 44 ↔ (chars s).getD j 0 = 44 := by
  rw [chars, List.getD_eq_getElem?_getD, List.getElem?_map]
  cases h : s.data.toList[j]? with
  | none => simp
  | some x =>
    simp only [Option.some.injEq, Option.map_some, Option.getD_some]
    constructor
    · intro e; rw [e]; rfl
    · intro e; exact UInt8.toNat.inj (by rw [e]; rfl)

/-- The rest of a text from a byte on. -/
def rest (s : ByteArray) (a : Nat) : ByteArray := s.extract a s.size

theorem rest_get (s : ByteArray) (a j : Nat) : (rest s a).data.toList[j]? = s.data.toList[a + j]? := by
  rw [rest, Lib.extract_data]
  rcases Nat.lt_or_ge j (s.size - a) with h | h
  · rw [List.getElem?_take_of_lt h, List.getElem?_drop]
  · have hs : s.data.toList.length = s.size := by simp
    rw [List.getElem?_eq_none (by simp; omega), List.getElem?_eq_none (by omega)]

theorem rest_zero (s : ByteArray) : rest s 0 = s := by
  apply bytes_eq
  rw [rest, Lib.extract_data, List.drop_zero, Nat.sub_zero, List.take_of_length_le (by simp)]

theorem rest_head (s : ByteArray) (a i : Nat) (h1 : a ≤ i) (h2 : i ≤ s.size) : (rest s a).extract 0 (i - a) = s.extract a i := by
  apply bytes_eq
  rw [rest, Lib.extract_data, Lib.extract_data, Lib.extract_data]
  simp only [List.drop_zero, Nat.sub_zero, List.take_take]
  congr 1
  omega

theorem rest_size (s : ByteArray) (a : Nat) : (rest s a).size = s.size - a := by
  rw [rest, ByteArray.size_extract]; omega

theorem rest_rest (s : ByteArray) (a i : Nat) (h1 : a ≤ i) (h2 : i < s.size) : (rest s a).extract (i - a + 1) (rest s a).size = rest s (i + 1) := by
  apply bytes_eq
  rw [rest_size, rest, rest, Lib.extract_data, Lib.extract_data, Lib.extract_data]
  rw [List.drop_take, List.drop_drop, List.take_take]
  congr 1
  · omega
  · congr 1; omega

theorem commas_rest_hit {s : ByteArray} {a i : Nat} (h1 : a ≤ i) (h2 : i < s.size) (hi : (chars s).getD i 0 = 44) (h : ∀ j, a ≤ j → j < i → (chars s).getD j 0 ≠ 44) :
    commas (rest s a) = s.extract a i :: commas (rest s (i + 1)) := by
  rw [commas_hit (i := i - a) (by rw [rest_get, show a + (i - a) = i by omega]; exact (ch_iff s i).2 hi) (fun j hj => by
    rw [rest_get]; intro e; exact h (a + j) (by omega) (by omega) ((ch_iff s _).1 e))]
  rw [rest_head s a i h1 (by omega), rest_rest s a i h1 h2]

theorem commas_rest_miss {s : ByteArray} {a : Nat} (h : ∀ j, a ≤ j → j < s.size → (chars s).getD j 0 ≠ 44) : commas (rest s a) = [s.extract a s.size] :=
  commas_miss (fun j e => by
    rw [rest_get] at e
    have hl : s.data.toList.length = s.size := by simp
    have hj : a + j < s.size := by
      rcases Nat.lt_or_ge (a + j) s.size with h' | h'
      · exact h'
      · rw [List.getElem?_eq_none (by omega)] at e; cases e
    exact h (a + j) (by omega) hj ((ch_iff s _).1 e))

theorem first_cm (s : ByteArray) : (∀ j : Nat, s.data.toList[j]? ≠ some 44) ∨ ∃ i : Nat, s.data.toList[i]? = some 44 ∧ ∀ j : Nat, j < i → s.data.toList[j]? ≠ some 44 := by
  rcases Lib.index_spec s.data.toList [44] with ⟨_, h⟩ | ⟨i, _, _, hi, h⟩
  · left
    intro j e
    rcases Nat.lt_or_ge s.data.toList.length j with h' | h'
    · rw [List.getElem?_eq_none (by omega)] at e; cases e
    · have := h j h'
      rw [(occ_iff _ _).2 e] at this
      cases this
  · right
    refine ⟨i, (occ_iff _ _).1 hi, fun j hj e => ?_⟩
    have := h j hj
    rw [(occ_iff _ _).2 e] at this
    cases this

theorem commas_le (s : ByteArray) : (commas s).length ≤ s.size + 2 := by
  rw [commas_length]
  have := Lib.count_le s.data.toList cm.data.toList
  have hl : s.data.toList.length = s.size := by simp
  show Lib.count s.data.toList cm.data.toList + 1 ≤ _
  omega


theorem commas_mem (n : Nat) : ∀ s : ByteArray, s.size ≤ n → ∀ t ∈ commas s, t.size ≤ s.size := by
  induction n with
  | zero =>
    intro s hs t ht
    have hl : s.data.toList.length = s.size := by simp
    rw [commas_miss (fun j e => by rw [List.getElem?_eq_none (by omega)] at e; cases e)] at ht
    rw [List.mem_singleton.1 ht]
    exact Nat.le_refl _
  | succ n ih =>
    intro s hs t ht
    rcases first_cm s with h | ⟨i, hi, h⟩
    · rw [commas_miss h] at ht
      rw [List.mem_singleton.1 ht]
      exact Nat.le_refl _
    · have hl : s.data.toList.length = s.size := by simp
      have hlt : i < s.size := by
        rcases Nat.lt_or_ge i s.size with h' | h'
        · exact h'
        · rw [List.getElem?_eq_none (by omega)] at hi; cases hi
      rw [commas_hit hi h] at ht
      rcases List.mem_cons.1 ht with rfl | ht
      · rw [ByteArray.size_extract]; omega
      · have hr : s.extract (i + 1) s.size = rest s (i + 1) := rfl
        rw [hr] at ht
        have := ih (rest s (i + 1)) (by rw [rest_size]; omega) t ht
        rw [rest_size] at this
        omega

/-- A part's verdict, and how many bytes its mark takes. -/
def markF (l : List Nat) : Nat × Nat := if l.getD 0 256 = 33 then (2, 1) else if l.getD 0 256 = 64 then (3, 1) else (1, 0)

/-- The items of a list's parts: the items, the offset of an error, the error. -/
def listGo : List ByteArray → List (Nat × List El) → Nat → List (Nat × List El) × Nat × Nat
  | [], acc, _ => (acc, 0, 0)
  | t :: r, acc, pos =>
    if acc.length = 64 then ([], pos, 9)
    else
      let m := markF (chars t)
      let R := compF ((chars t).drop m.2)
      if R.2.2 = 0 then listGo r (acc ++ [(m.1, R.1)]) (pos + (t.size + 1)) else ([], pos + m.2 + R.2.1, R.2.2)

def parseF (s : ByteArray) : List (Nat × List El) × Nat × Nat := if s.size = 0 then ([], 0, 4) else listGo (commas s) [] 0

theorem drop_bytes {l : List ByteArray} {k : Nat} (h : k < l.length) : l.drop k = l.getD k ByteArray.empty :: l.drop (k + 1) := by
  rw [List.drop_eq_getElem_cons h, List.getD_eq_getElem?_getD, List.getElem?_eq_getElem h]; rfl

theorem listGo_full {l : List ByteArray} {k pos : Nat} {acc : List (Nat × List El)} (hk : k < l.length) (h : acc.length = 64) : listGo (l.drop k) acc pos = ([], pos, 9) := by
  rw [drop_bytes hk, listGo, if_pos h]

theorem listGo_bad {l : List ByteArray} {k pos v q : Nat} {acc : List (Nat × List El)} {R : List El × Nat × Nat} (hk : k < l.length) (h : acc.length ≠ 64) (hm : markF (chars (l.getD k ByteArray.empty)) = (v, q)) (hR : compF ((chars (l.getD k ByteArray.empty)).drop q) = R) (h0 : R.2.2 ≠ 0) : listGo (l.drop k) acc pos = ([], pos + q + R.2.1, R.2.2) := by
  rw [drop_bytes hk, listGo, if_neg h]
  simp only [hm, hR, if_neg h0]

theorem listGo_good {l : List ByteArray} {k pos v q : Nat} {acc : List (Nat × List El)} {R : List El × Nat × Nat} (hk : k < l.length) (h : acc.length ≠ 64) (hm : markF (chars (l.getD k ByteArray.empty)) = (v, q)) (hR : compF ((chars (l.getD k ByteArray.empty)).drop q) = R) (h0 : R.2.2 = 0) : listGo (l.drop k) acc pos = listGo (l.drop (k + 1)) (acc ++ [(v, R.1)]) (pos + ((l.getD k ByteArray.empty).size + 1)) := by
  rw [drop_bytes hk, listGo, if_neg h]
  simp only [hm, hR, if_pos h0]

theorem pre_one (t : ByteArray) (c : UInt8) : preB t ⟨#[c]⟩ = decide ((chars t).getD 0 256 = c.toNat) := by
  have e : ∀ x : UInt8, (x = c) ↔ (x.toNat = c.toNat) := fun x => ⟨fun h => by rw [h], fun h => UInt8.toNat.inj h⟩
  have hl : t.data.toList.length = t.size := by simp
  unfold preB
  rw [ByteArray.toList_eq, ByteArray.toList_eq, Lib.extract_data]
  show (decide (1 ≤ t.size) && ((t.data.toList.drop 0).take (1 - 0) == [c])) = _
  unfold chars
  rw [← hl]
  generalize t.data.toList = l
  cases l with
  | nil =>
    have h1 : c.toNat < 256 := c.toNat_lt
    show (false && _) = decide ((256 : Nat) = c.toNat)
    rw [decide_eq_false (by omega)]
    rfl
  | cons x r =>
    show (decide (1 ≤ r.length + 1) && ([x] == [c])) = decide (x.toNat = c.toNat)
    rw [decide_eq_true (by omega), Bool.true_and, Bool.eq_iff_iff, beq_iff_eq, decide_eq_true_eq, ← e x]
    constructor
    · intro h; exact List.head_eq_of_cons_eq h
    · intro h; rw [h]

/-- The two cells of an item: its verdict, its pattern. -/
def itV (t : Nat × Nat × List El) : List Value := [.int .i64 (t.1 : Nat), .pointer (some ⟨t.2.1, 0, none⟩)]
def itA (t : Nat × Nat × List El) : Nat × List El := (t.1, t.2.2)

/-- The patterns of a list under way: none lies in the list's own row. -/
def ItsIs (w : World) (lo : Nat) (g : Option Nat) (its : List (Nat × Nat × List El)) : Prop :=
  ∀ t ∈ its, lo ≤ t.2.1 ∧ t.1 ≤ 3 ∧ ∃ txt A cap, IsPat w w.heap.size t.2.1 txt t.2.2 A cap ∧ some t.2.1 ≠ g ∧ ∀ a, A = some a → lo ≤ a.block ∧ a.block < w.heap.size ∧ some a.block ≠ g

theorem IsPat.kept_ne {w w' : World} {B b : Nat} {txt : ByteArray} {L : List El} {A : Option Addr} {cap : Nat} {row : Option Nat} (h : IsPat w B b txt L A cap) (hB : B ≤ w.heap.size) (hg : w.grownBy w' row) (h1 : some b ≠ row) (h2 : ∀ a, A = some a → some a.block ≠ row) : IsPat w' B b txt L A cap :=
  ⟨h.lt, hg.cell h.text h1, hg.cell h.els h1, by
    rcases h.reads with h3 | ⟨b, off, h3, h4, h5⟩
    · exact .inl h3
    · exact .inr ⟨b, off, h3, h4, fun i hi => hg.cell (h5 i hi) (show some b ≠ row from h2 _ h3)⟩, h.small, h.ok, h.len⟩

theorem IsPat.up {w : World} {B B' b : Nat} {txt : ByteArray} {L : List El} {A : Option Addr} {cap : Nat} (h : IsPat w B b txt L A cap) (hB : B ≤ B') : IsPat w B' b txt L A cap :=
  ⟨Nat.lt_of_lt_of_le h.lt hB, h.text, h.els, by
    rcases h.reads with h3 | ⟨b, off, h3, h4, h5⟩
    · exact .inl h3
    · exact .inr ⟨b, off, h3, Nat.lt_of_lt_of_le h4 hB, h5⟩, h.small, h.ok, h.len⟩

theorem ItsIs.kept {w w' : World} {lo : Nat} {g : Option Nat} {its : List (Nat × Nat × List El)} (h : ItsIs w lo g its) (hg : w.grownBy w' g) : ItsIs w' lo g its := by
  intro t ht
  obtain ⟨h0, h1, txt, A, cap, hp, h2, h3⟩ := h t ht
  exact ⟨h0, h1, txt, A, cap, (hp.kept_ne (Nat.le_refl _) hg h2 (fun a ha => (h3 a ha).2.2)).up hg.size, h2, fun a ha => ⟨(h3 a ha).1, Nat.lt_of_lt_of_le (h3 a ha).2.1 hg.size, (h3 a ha).2.2⟩⟩

theorem ItsIs.kept_none {w w' : World} {lo : Nat} {g : Option Nat} {its : List (Nat × Nat × List El)} (h : ItsIs w lo g its) (hg : w.grownBy w' none) : ItsIs w' lo g its := h.kept (hg.but _)

theorem ItsIs.kept_low {w w' : World} {lo r : Nat} {g : Option Nat} {its : List (Nat × Nat × List El)} (h : ItsIs w lo g its) (hr : r < lo) (hg : w.grownBy w' (some r)) : ItsIs w' lo g its := by
  intro t ht
  obtain ⟨h0, h1, txt, A, cap, hp, h2, h3⟩ := h t ht
  exact ⟨h0, h1, txt, A, cap, (hp.kept_ne (Nat.le_refl _) hg (by simp; omega) (fun a ha => by have := (h3 a ha).1; simp; omega)).up hg.size, h2, fun a ha => ⟨(h3 a ha).1, Nat.lt_of_lt_of_le (h3 a ha).2.1 hg.size, (h3 a ha).2.2⟩⟩

theorem ItsIs.fresh {w : World} {lo b : Nat} {g : Option Nat} {its : List (Nat × Nat × List El)} (h : ItsIs w lo g its) (hb : w.heap.size ≤ b) : ItsIs w lo (some b) its := by
  intro t ht
  obtain ⟨h0, h1, txt, A, cap, hp, h2, h3⟩ := h t ht
  have := hp.lt
  exact ⟨h0, h1, txt, A, cap, hp, by simp; omega, fun a ha => ⟨(h3 a ha).1, (h3 a ha).2.1, by have := (h3 a ha).2.1; simp; omega⟩⟩

theorem ItsIs.more {w : World} {lo v b : Nat} {g : Option Nat} {its : List (Nat × Nat × List El)} {txt : ByteArray} {L : List El} {A : Option Addr} {cap : Nat} (h : ItsIs w lo g its) (hv : v ≤ 3) (hp : IsPat w w.heap.size b txt L A cap) (hlo : lo ≤ b) (hA : ∀ a, A = some a → lo ≤ a.block ∧ a.block < w.heap.size ∧ some a.block ≠ g) (hb : some b ≠ g) : ItsIs w lo g (its ++ [(v, b, L)]) := by
  intro t ht
  rcases List.mem_append.1 ht with ht | ht
  · exact h t ht
  · rw [List.mem_singleton.1 ht]
    exact ⟨hlo, hv, txt, A, cap, hp, hb, hA⟩

theorem comp_at_le (l : List Nat) : (compF l).2.1 ≤ l.length + 80 := by
  unfold compF
  split
  · simp
  · split
    · simp
    · simp only
      split
      · simp
      · simp only
        omega

/-- A list's own block. -/
def lisB (s : ByteArray) (v : Value) : Obj := .cells #[.string s, v] 96 (0, 0)

theorem lisB_cells {w : World} {b : Nat} {s : ByteArray} {v : Value} (h : w.heap[b]? = some (lisB s v)) : w.cell? ⟨b, 0, none⟩ = some (.string s) ∧ w.cell? ⟨b, 1, none⟩ = some v ∧ w.frozen? ⟨b, 1, none⟩ = false := by
  simp [World.cell?, World.frozen?, h, lisB]

theorem lisB_store {w : World} {b : Nat} {s : ByteArray} {v v' : Value} (h : w.heap[b]? = some (lisB s v)) : (w.setCell ⟨b, 1, none⟩ v').heap[b]? = some (lisB s v') := by
  have hlt := lt_of_block h
  have h' : w.heap[b] = lisB s v := by simpa [Array.getElem?_eq_getElem hlt] using h
  show (w.heap.modify b _)[b]? = _
  rw [Array.getElem?_eq_getElem (by simpa using hlt), Array.getElem_modify_self, h']
  simp [lisB]

theorem cell_two_new (w : World) (x y : Value) (t : TypeId) : ∀ j u, [x, y][j]? = some u → (w.alloc (.cells #[x, y] t)).cell? ((⟨w.heap.size, 0, none⟩ : Addr).add j) = some u := by
  intro j u hj
  match j, hj with
  | 0, hj => simp at hj; subst hj; simp [Addr.add]
  | 1, hj => simp at hj; subst hj; simp [Addr.add]

/-- One item more: what the append and the store leave. -/
theorem lis_all {w W3 w3 : World} {s : ByteArray} {v v1 : Value} {n : Nat} {xs ys : List Value} {its : List (Nat × Nat × List El)} (hp : W3.heap[w.heap.size]? = some (lisB s v)) (ho : W3.ownsRow (w.heap.size + 2) 99 2 v n xs) (hb : Below w.heap.size w W3)
    (hi : ItsIs W3 (w.heap.size + 1) v.ownBlock its) (hg : W3.grownBy w3 v.ownBlock) (hown : w3.ownsRow (w.heap.size + 2) 99 2 v1 (n + 1) ys) (hat : v1.ownBlock = v.ownBlock ∨ v1.ownBlock = some W3.heap.size) :
    ∃ g cap, v1 = .slice (some ⟨g, 0, none⟩) (n + 1) cap ∧ w3.cell? ⟨w.heap.size, 1, none⟩ = some v ∧ w3.frozen? ⟨w.heap.size, 1, none⟩ = false ∧
      Hid ((w3.setCell ⟨w.heap.size, 1, none⟩ (.slice (some ⟨g, 0, none⟩) (n + 1) cap)).heap[w.heap.size]? = some (lisB s (.slice (some ⟨g, 0, none⟩) (n + 1) cap))) ∧
      Hid ((w3.setCell ⟨w.heap.size, 1, none⟩ (.slice (some ⟨g, 0, none⟩) (n + 1) cap)).ownsRow (w.heap.size + 2) 99 2 (.slice (some ⟨g, 0, none⟩) (n + 1) cap) (n + 1) ys) ∧
      Hid (Below w.heap.size w (w3.setCell ⟨w.heap.size, 1, none⟩ (.slice (some ⟨g, 0, none⟩) (n + 1) cap))) ∧
      Hid (ItsIs (w3.setCell ⟨w.heap.size, 1, none⟩ (.slice (some ⟨g, 0, none⟩) (n + 1) cap)) (w.heap.size + 1) (some g) its) := by
  have hlt := lt_of_block hp
  have hp1 : w3.heap[w.heap.size]? = some (lisB s v) := by
    rw [hg.block _ hlt (fun e => by have := (ho.lt _ e.symm).1; omega)]; exact hp
  have hb1 : Below w.heap.size w w3 := hb.grown hg (by omega) (fun k e => by have := (ho.lt _ e).1; omega)
  obtain ⟨_, k1, k2⟩ := lisB_cells hp1
  have hi1 : ItsIs w3 (w.heap.size + 1) v1.ownBlock its := by
    rcases hat with h | h
    · rw [h]; exact hi.kept hg
    · rw [h]
      intro t ht
      obtain ⟨h0, h1, txt, A, cap, hpt, h2, h3⟩ := hi t ht
      have := hpt.lt
      exact ⟨h0, h1, txt, A, cap, (hpt.kept_ne (Nat.le_refl _) hg h2 (fun a ha => (h3 a ha).2.2)).up hg.size, by simp; omega, fun a ha => ⟨(h3 a ha).1, Nat.lt_of_lt_of_le (h3 a ha).2.1 hg.size, by have := (h3 a ha).2.1; simp; omega⟩⟩
  have hform : ∃ g cap, v1 = .slice (some ⟨g, 0, none⟩) (n + 1) cap := by
    rcases hown.2 with ⟨_, h⟩ | ⟨g, cap, cur, hv, _⟩
    · omega
    · exact ⟨g, cap, hv⟩
  obtain ⟨g, cap, rfl⟩ := hform
  refine ⟨g, cap, rfl, k1, k2, Lib.hid (lisB_store hp1), Lib.hid (hown.kept (grown_setCell w3 w.heap.size 1 _) (.inr ?_)), Lib.hid (hb1.setCell (p := ⟨w.heap.size, 1, none⟩) (Nat.le_refl _) _), Lib.hid (hi1.kept_low (by omega) (grown_setCell w3 w.heap.size 1 _))⟩
  intro e
  have := (hown.lt g rfl).1
  have h2 : g = w.heap.size := Option.some.inj e
  omega

/-- A list in memory. -/
structure IsList (w : World) (B lb : Nat) (txt : ByteArray) (its : List (Nat × Nat × List El)) (A : Option Addr) (cap : Nat) : Prop where
  lt : lb < B
  text : w.cell? ⟨lb, 0, none⟩ = some (.string txt)
  items : w.cell? ⟨lb, 1, none⟩ = some (.slice A its.length cap)
  reads : ReadsV w B A (its.flatMap itV)
  pats : ∀ t ∈ its, t.1 ≤ 3 ∧ ∃ ptxt PA pc, IsPat w B t.2.1 ptxt t.2.2 PA pc
  len : its.length ≤ 64

theorem IsList.below {w w' : World} {B lb : Nat} {txt : ByteArray} {its : List (Nat × Nat × List El)} {A : Option Addr} {cap : Nat} (h : IsList w B lb txt its A cap) (hb : Below B w w') : IsList w' B lb txt its A cap :=
  ⟨h.lt, (hb.cell (p := ⟨lb, 0, none⟩) h.lt).trans h.text, (hb.cell (p := ⟨lb, 1, none⟩) h.lt).trans h.items, h.reads.below hb, fun t ht => by
    obtain ⟨h1, ptxt, PA, pc, h2⟩ := h.pats t ht
    exact ⟨h1, ptxt, PA, pc, h2.below hb⟩, h.len⟩

/-- A list whose items are a row of the call's own. -/
theorem list_done {w : World} {b : Nat} {s : ByteArray} {A : Option Addr} {n cap : Nat} {its : List (Nat × Nat × List El)} (hp : w.heap[b]? = some (lisB s (.slice A n cap))) (hn : n = its.length) (ho : w.ownsRow (b + 2) 99 2 (.slice A n cap) its.length (its.flatMap itV)) (hi : ItsIs w (b + 1) (Value.slice A n cap).ownBlock its) (hl : its.length ≤ 64) :
    IsList w w.heap.size b s its A cap := by
  subst hn
  obtain ⟨c0, c1, _⟩ := lisB_cells hp
  refine ⟨lt_of_block hp, c0, c1, ?_, fun t ht => by obtain ⟨_, h1, txt, PA, pc, h2, _⟩ := hi t ht; exact ⟨h1, txt, PA, pc, h2⟩, hl⟩
  rcases ho.2 with ⟨_, h⟩ | ⟨g, cap, cur, hv, hg, hh, _, _, _, _⟩
  · exact .inl (by rw [List.eq_nil_of_length_eq_zero h]; rfl)
  · cases hv
    refine .inr ⟨g, 0, rfl, lt_of_block hh, fun i hi => ?_⟩
    rw [Nat.zero_add]
    have h := ho.cells rfl i ((its.flatMap itV).getD i undef) (by rw [List.getD_eq_getElem?_getD, List.getElem?_eq_getElem hi]; rfl)
    have hadd : ∀ j, (⟨g, 0, none⟩ : Addr).add j = ⟨g, 0 + j, none⟩ := fun j => by unfold Addr.add; split <;> simp_all
    rw [hadd, Nat.zero_add] at h
    exact h

def ListPost (w : World) (s : ByteArray) (R : List (Nat × List El) × Nat × Nat) (e : Ending) (w' : World) : Prop :=
  (∃ p, e = .returned (.tuple #[p, .int .i64 (R.2.1 : Nat), .int .i64 (R.2.2 : Nat)]) ∧ ((R.2.2 = 0 ∧ ∃ lb its A cap, p = .pointer (some ⟨lb, 0, none⟩) ∧ its.map itA = R.1 ∧ w.heap.size ≤ lb ∧ IsList w' w'.heap.size lb s its A cap) ∨ (R.2.2 ≠ 0 ∧ p = .pointer none))) ∧ Below w.heap.size w w'

theorem list_none {w w' : World} {s : ByteArray} {R : List (Nat × List El) × Nat × Nat} {a n : Nat} {L : List (Nat × List El)} (h : R = (L, a, n)) (hn : n ≠ 0) (hB : Below w.heap.size w w') : ListPost w s R (.returned (.tuple #[.pointer none, .int .i64 a, .int .i64 n])) w' := by
  subst h
  exact ⟨⟨_, rfl, .inr ⟨hn, rfl⟩⟩, hB⟩

end Go.Proofs.YtgnmanmlnbidfaaDoor
