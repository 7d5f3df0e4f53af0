/- Wildmat: ranges and classes, by walks through the text of the package. -/
import Derived.Test.YtgnmanmlnbidfaaDoorElem
import Derived.Deep.RegionWith
namespace Go.Proofs.YtgnmanmlnbidfaaDoor
open Go.RowKit

theorem between_eq : ∀ a : Nat, a < 128 → ∀ b : Nat, b < 128 → rangeOk a b = true →
    0 ≤ Lib.indexByte nameS.data.toList a.toUInt8 ∧ Lib.indexByte nameS.data.toList a.toUInt8 ≤ Lib.indexByte nameS.data.toList b.toUInt8 ∧ Lib.indexByte nameS.data.toList b.toUInt8 < 40 ∧
    (nameS.data.toList.drop (Lib.indexByte nameS.data.toList a.toUInt8).toNat).take ((Lib.indexByte nameS.data.toList b.toUInt8).toNat + 1 - (Lib.indexByte nameS.data.toList a.toUInt8).toNat) = (rangeL a b).map Nat.toUInt8 := by decide +kernel

theorem sortF_lt {c : Nat} (h : 0 < sortF c) : c < 128 := by
  unfold sortF at h
  split at h
  · omega
  · split at h <;> omega

theorem rangeOk_lt {a b : Nat} (h : rangeOk a b = true) : a < 128 ∧ b < 128 := by
  simp only [rangeOk, Bool.and_eq_true, decide_eq_true_eq] at h
  obtain ⟨⟨h1, h2⟩, _⟩ := h
  exact ⟨sortF_lt h1, sortF_lt (by omega)⟩

theorem between_any (a b : Nat) (h : rangeOk a b = true) (w : World) : Calls Tryd.prog 48 #[.int .u8 a, .int .u8 b] w fun e w' => e = .returned (.string (bytesOf (rangeL a b))) ∧ w' = w := by
  obtain ⟨ha, hb⟩ := rangeOk_lt h
  obtain ⟨h1, h2, h3, h4⟩ := between_eq a ha b hb h
  have HA := fun w => index_q nameS a w
  have HB := fun w => index_q nameS b w
  obtain ⟨x, hx⟩ : ∃ x : Nat, Lib.indexByte nameS.data.toList a.toUInt8 = (x : Int) := ⟨(Lib.indexByte nameS.data.toList a.toUInt8).toNat, by omega⟩
  obtain ⟨y, hy⟩ : ∃ y : Nat, Lib.indexByte nameS.data.toList b.toUInt8 = (y : Int) := ⟨(Lib.indexByte nameS.data.toList b.toUInt8).toNat, by omega⟩
  rw [hx] at HA h2 h4
  rw [hy] at HB h2 h3 h4
  have E : Hid (nameS.extract x (y + 1) = bytesOf (rangeL a b)) := Lib.hid (by
    apply bytes_eq
    rw [Lib.extract_data]
    simp only [Int.toNat_natCast] at h4
    rw [h4]
    rfl)
  have hns : nameS.size = 40 := rfl
  have HAH := Lib.hid HA
  have HBH := Lib.hid HB
  have hxy : x ≤ y := by omega
  have hy40 : y < 40 := by omega
  clear HA HB hx hy h1 h2 h3 h4 h
  go_enter Tryd.func48, Tryd.ntmps48
  go_wp2_with fail
  refine (HAH.out _).mono ?_
  rintro e1 w2 ⟨rfl, rfl⟩
  go_wp2_with fail
  refine (HBH.out _).mono ?_
  rintro e1 w2 ⟨rfl, rfl⟩
  go_wp2_with fail
  go_ret
  exact ⟨by rw [← E.out]; rfl, rfl⟩

/-- Does a text begin with another? -/
def preB (s p : ByteArray) : Bool := decide (p.size ≤ s.size) && ((s.extract 0 p.size).toList == p.toList)

theorem pre54_any (s p : ByteArray) (w : World) : Calls Tryd.prog 54 #[.string s, .string p] w fun e w' => e = .returned (.bool (preB s p)) ∧ w = w' := by
  by_cases h : p.size ≤ s.size
  · have E : Hid (preB s p = ((s.extract 0 p.size).toList == p.toList)) := Lib.hid (by rw [preB, decide_eq_true h, Bool.true_and])
    go_enter Tryd.func54, Tryd.ntmps54
    go_wp2_with fail
    go_ret
    exact ⟨by rw [E.out]; rfl, rfl⟩
  · have E : Hid (preB s p = false) := Lib.hid (by rw [preB, decide_eq_false h, Bool.false_and])
    go_enter Tryd.func54, Tryd.ntmps54
    go_wp2_with fail
    go_ret
    exact ⟨by rw [E.out]; rfl, rfl⟩

theorem pre_any (s p : ByteArray) (w : World) : Calls Tryd.prog 44 #[.string s, .string p] w fun e w' => e = .returned (.bool (preB s p)) ∧ w = w' := by
  go_enter Tryd.func44, Tryd.ntmps44
  go_wp2_with fail
  refine (pre54_any s p w).mono ?_
  rintro e1 w2 ⟨rfl, rfl⟩
  go_wp2_with fail
  go_ret
  exact ⟨rfl, rfl⟩

/-- What the class's parser answers. -/
def ClsAns (R : Option (El × Nat)) (N : Nat) (x : ByteArray) (i : Bool) (n : Nat) : Prop :=
  match R with
  | none => n = 0
  | some (e, m) => elV e = .iface 63 (.agg #[.string x, .bool i]) ∧ n = N - m ∧ 0 < n

/-- A class in memory. -/
def clsB (acc : List Nat) (i : Bool) : Obj := .cells #[.string (bytesOf acc), .bool i] 63 (0, 0)

theorem clsB_set {w : World} {b : Nat} {acc : List Nat} {i : Bool} (h : w.heap[b]? = some (clsB acc i)) : w.cell? ⟨b, 0, none⟩ = some (.string (bytesOf acc)) ∧ w.cell? ⟨b, 1, none⟩ = some (.bool i) ∧ w.frozen? ⟨b, 0, none⟩ = false ∧ w.frozen? ⟨b, 1, none⟩ = false := by
  simp [World.cell?, World.frozen?, h, clsB]

theorem clsB_flag {w : World} {b : Nat} {acc : List Nat} {i j : Bool} (h : w.heap[b]? = some (clsB acc i)) : (w.setCell ⟨b, 1, none⟩ (.bool j)).heap[b]? = some (clsB acc j) := by
  have hlt := lt_of_block h
  have h' : w.heap[b] = clsB acc i := by simpa [Array.getElem?_eq_getElem hlt] using h
  show (w.heap.modify b _)[b]? = _
  rw [Array.getElem?_eq_getElem (by simpa using hlt), Array.getElem_modify_self, h']
  simp [clsB]

theorem clsB_store {w : World} {b : Nat} {acc acc' : List Nat} {i : Bool} (h : w.heap[b]? = some (clsB acc i)) : (w.setCell ⟨b, 0, none⟩ (.string (bytesOf acc'))).heap[b]? = some (clsB acc' i) := by
  have hlt := lt_of_block h
  have h' : w.heap[b] = clsB acc i := by simpa [Array.getElem?_eq_getElem hlt] using h
  show (w.heap.modify b _)[b]? = _
  rw [Array.getElem?_eq_getElem (by simpa using hlt), Array.getElem_modify_self, h']
  simp [clsB]

theorem cls_done {W : World} {rb : Nat} {acc : List Nat} {i : Bool} {n : Int} {T : Array Value} {Q : Ending → World → Prop} (hW : W.heap[rb]? = some (clsB acc i)) (h2 : T.getD 2 undef = .pointer (some ⟨rb, 0, none⟩)) (h3 : T.getD 3 undef = .int .i64 n)
    (hQ : Q (.returned (.tuple #[.agg #[.string (bytesOf acc), .bool i], .int .i64 n])) W) : bodyPost Tryd.prog Tryd.f32 Q Exit.ret { tmps := T, defers := [] } W := by
  obtain ⟨c0, c1, _, _⟩ := clsB_set hW
  have h2' : T[2]?.getD undef = .pointer (some ⟨rb, 0, none⟩) := by rw [← h2]; simp
  have h3' : T[3]?.getD undef = .int .i64 n := by rw [← h3]; simp
  exact bodyPost_ret (v := .tuple #[.agg #[.string (bytesOf acc), .bool i], .int .i64 n]) (by simp [results, Tryd.results32, go_sem, h2', h3', c0, c1]) rfl hQ

theorem sort_q (c : Nat) (w : World) : Calls Tryd.prog 47 #[.int .u8 c] w fun e w' => e = .returned (.int .i64 (sortF c : Nat)) ∧ w' = w :=
  (sort_any c w).mono fun _ _ ⟨h1, h2⟩ => ⟨h1, h2.symm⟩

theorem encode_one {c : Nat} (h : c < 128) : Utf8.encode (c : Int) = bytesOf [c] := by
  have hv : Utf8.valid (c : Int) = true := by unfold Utf8.valid; simp; omega
  unfold Utf8.encode
  simp only [hv, if_true, Int.toNat_natCast]
  rw [if_pos h]
  rfl

theorem rangeL_len {a b : Nat} (h : rangeOk a b = true) : (rangeL a b).length ≤ 128 := by
  have := (rangeOk_lt h).2
  simp only [rangeL, List.length_map, List.length_range]
  omega

theorem eq_yes {a b : Nat} (h : a = b) : ((a : Int) == (b : Int)) = true := by subst h; simp
theorem eq_no {a b : Nat} (h : a ≠ b) : ((a : Int) == (b : Int)) = false := by simp only [beq_eq_false_iff_ne, ne_eq]; omega

theorem rangeL_lt {a b : Nat} (h : rangeOk a b = true) : ∀ y ∈ rangeL a b, y < 256 := by
  have := (rangeOk_lt h).2
  intro y hy
  simp only [rangeL, List.mem_map, List.mem_range] at hy
  obtain ⟨i, hi, rfl⟩ := hy
  omega

end Go.Proofs.YtgnmanmlnbidfaaDoor
