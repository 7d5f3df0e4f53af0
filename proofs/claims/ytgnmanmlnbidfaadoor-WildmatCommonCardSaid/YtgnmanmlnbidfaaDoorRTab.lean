/- Wildmat: the reference's table of common strings, as plain mathematics and in memory. -/
import Derived.Test.YtgnmanmlnbidfaaDoorRMat
import Derived.Test.YtgnmanmlnbidfaaDoorRBit
namespace Go.Proofs.YtgnmanmlnbidfaaDoor
open Go.RowKit

/-- An answer of bytes, not longer than a bound. -/
def Good (o : Option (List Nat)) (B : Nat) : Prop := ∀ l, o = some l → (∀ c ∈ l, c < 256) ∧ l.length ≤ B

theorem Good.okL {o : Option (List Nat)} {B : Nat} (h : Good o B) : okL o := by
  cases o with
  | none => exact trivial
  | some l => exact (h l rfl).1
theorem Good.len {o : Option (List Nat)} {B : Nat} (h : Good o B) : (o.getD []).length ≤ B := by
  cases o with
  | none => simp
  | some l => exact (h l rfl).2
theorem Good.mono {o : Option (List Nat)} {B C : Nat} (h : Good o B) (hc : B ≤ C) : Good o C := fun l hl => ⟨(h l hl).1, Nat.le_trans (h l hl).2 hc⟩
theorem good_none (B : Nat) : Good none B := fun _ h => by cases h
theorem good_best {a b : Option (List Nat)} {B : Nat} (ha : Good a B) (hb : Good b B) : Good (best2 a b) B := by
  cases b with
  | none => exact ha
  | some y =>
    cases a with
    | none => exact hb
    | some x =>
      simp only [best2]
      split
      · exact ha
      · exact hb
theorem good_cons {o : Option (List Nat)} {B c : Nat} (h : Good o B) (hc : c < 256) : Good (o.map (c :: ·)) (B + 1) := by
  intro l hl
  rw [Option.map_eq_some_iff] at hl
  obtain ⟨x, hx, rfl⟩ := hl
  obtain ⟨h1, h2⟩ := h x hx
  refine ⟨fun d hd => ?_, by simp; omega⟩
  rcases List.mem_cons.1 hd with rfl | hd
  · exact hc
  · exact h1 d hd
theorem goes_lt {e f : El} {c : Nat} (h : goes e f c = true) : c < 128 := by
  simp only [goes, Bool.and_eq_true] at h
  exact named_lt h.1.1.2
theorem good_chars {R : List El → List El → Option (List Nat)} {e f : El} {P Q : List El} {B : Nat} (hR : (e.isStar && f.isStar) = false → Good (R (if e.isStar = true then e :: P else P) (if f.isStar = true then f :: Q else Q)) B) {o : Option (List Nat)} (ho : Good o (B + 1)) : ∀ n, Good (charsF R e f P Q o n) (B + 1) := by
  intro n
  induction n with
  | zero => exact ho
  | succ n ih =>
    rw [charsF]
    split
    · rename_i hg
      have hne : (e.isStar && f.isStar) = false := by
        simp only [goes, Bool.and_eq_true, Bool.not_eq_true'] at hg
        exact hg.1.1.1
      exact good_best ih (good_cons (hR hne) (by have := goes_lt hg; omega))
    · exact ih

theorem good_node {R : List El → List El → Option (List Nat)} (hR : ∀ A B : List El, Good (R A B) (A.length + B.length)) (P Q : List El) : Good (nodeF R P Q) (P.length + Q.length) := by
  cases P with
  | nil =>
    cases Q with
    | nil => intro l hl; cases hl; simp
    | cons f Q =>
      simp only [nodeF]
      split
      · exact good_best (good_none _) ((hR [] Q).mono (by simp))
      · exact good_none _
  | cons e P =>
    cases Q with
    | nil =>
      simp only [nodeF]
      split
      · exact good_best (good_none _) ((hR P []).mono (by simp))
      · exact good_none _
    | cons f Q =>
      simp only [nodeF]
      have h1 : Good (if e.isStar = true then best2 none (R P (f :: Q)) else none) (P.length + Q.length + 1 + 1) := by
        split
        · exact good_best (good_none _) ((hR P (f :: Q)).mono (by simp; omega))
        · exact good_none _
      have h2 : Good (if f.isStar = true then best2 (if e.isStar = true then best2 none (R P (f :: Q)) else none) (R (e :: P) Q) else (if e.isStar = true then best2 none (R P (f :: Q)) else none)) (P.length + Q.length + 1 + 1) := by
        split
        · exact good_best h1 ((hR (e :: P) Q).mono (by simp; omega))
        · exact h1
      refine (good_chars (B := P.length + Q.length + 1) ?_ h2 128).mono (by simp; omega)
      intro hne
      refine (hR _ _).mono ?_
      cases he : e.isStar with
      | true =>
        rw [he] at hne
        have hf : f.isStar = false := by simpa using hne
        rw [if_pos rfl, hf, if_neg (by simp)]
        simp; omega
      | false =>
        rw [if_neg (by simp)]
        cases hf : f.isStar <;> simp <;> omega

theorem good_G : ∀ (n : Nat) (P Q : List El), Good (bestG n P Q) (P.length + Q.length) := by
  intro n
  induction n with
  | zero => intro P Q; exact good_none _
  | succ n ih => exact fun P Q => good_node ih P Q

theorem good_F (P Q : List El) : Good (bestF P Q) (P.length + Q.length) := good_G _ P Q

/-- The table's answer at two ends. -/
def TabF (P Q : List El) (i j : Nat) : Option (List Nat) := bestF (P.drop i) (Q.drop j)
/-- The answer with the stars gone over. -/
def tab0 (P Q : List El) (i j : Nat) : Option (List Nat) := if i = P.length ∧ j = Q.length then some [] else none
def tab1 (P Q : List El) (i j : Nat) : Option (List Nat) := if i < P.length ∧ (elAt P i).isStar = true then best2 (tab0 P Q i j) (TabF P Q (i + 1) j) else tab0 P Q i j
def tab2 (P Q : List El) (i j : Nat) : Option (List Nat) := if j < Q.length ∧ (elAt Q j).isStar = true then best2 (tab1 P Q i j) (TabF P Q i (j + 1)) else tab1 P Q i j
/-- The answer with the characters below a number gone over. -/
def tabC (P Q : List El) (i j c : Nat) : Option (List Nat) := charsF bestF (elAt P i) (elAt Q j) (P.drop (i + 1)) (Q.drop (j + 1)) (tab2 P Q i j) c

theorem el_drop {L : List El} {k : Nat} (h : k < L.length) : L.drop k = elAt L k :: L.drop (k + 1) := by
  rw [List.drop_eq_getElem_cons h, elAt, List.getD_eq_getElem?_getD, List.getElem?_eq_getElem h]; rfl

theorem tab_in {P Q : List El} (hP : ∀ x ∈ P, x.ok) (hQ : ∀ x ∈ Q, x.ok) {i j : Nat} (hi : i < P.length) (hj : j < Q.length) : TabF P Q i j = tabC P Q i j 128 := by
  have h0 : tab0 P Q i j = none := by rw [tab0, if_neg (by omega)]
  have hPd : ∀ x ∈ P.drop i, x.ok := fun x hx => hP x (List.mem_of_mem_drop hx)
  have hQd : ∀ x ∈ Q.drop j, x.ok := fun x hx => hQ x (List.mem_of_mem_drop hx)
  rw [TabF, bestF_node hPd hQd, el_drop hi, el_drop hj, nodeF, tabC, tab2, tab1, h0, TabF, TabF, el_drop hi, el_drop hj]
  simp only [hi, hj, true_and]

theorem tab_edge {P Q : List El} (hP : ∀ x ∈ P, x.ok) (hQ : ∀ x ∈ Q, x.ok) {i j : Nat} (hi : i ≤ P.length) (hj : j ≤ Q.length) (h : i = P.length ∨ j = Q.length) : TabF P Q i j = tab2 P Q i j := by
  have hPd : ∀ x ∈ P.drop i, x.ok := fun x hx => hP x (List.mem_of_mem_drop hx)
  have hQd : ∀ x ∈ Q.drop j, x.ok := fun x hx => hQ x (List.mem_of_mem_drop hx)
  rw [TabF, bestF_node hPd hQd]
  rcases Nat.lt_or_ge i P.length with h1 | h1
  · obtain rfl : j = Q.length := by omega
    have a0 : tab0 P Q i Q.length = none := by rw [tab0, if_neg (fun h => absurd h.1 (by omega))]
    have a2 : tab2 P Q i Q.length = tab1 P Q i Q.length := by rw [tab2, if_neg (fun h => absurd h.1 (by omega))]
    rw [a2, tab1, a0, List.drop_length, el_drop h1, nodeF, TabF, List.drop_length]
    simp only [h1, true_and]
  · obtain rfl : i = P.length := by omega
    have a1 : tab1 P Q P.length j = tab0 P Q P.length j := by rw [tab1, if_neg (fun h => absurd h.1 (by omega))]
    rcases Nat.lt_or_ge j Q.length with h2 | h2
    · have a0 : tab0 P Q P.length j = none := by rw [tab0, if_neg (fun h => absurd h.2 (by omega))]
      rw [tab2, a1, a0, List.drop_length, el_drop h2, nodeF, TabF, List.drop_length]
      simp only [h2, true_and]
    · obtain rfl : j = Q.length := by omega
      have a2 : tab2 P Q P.length Q.length = tab1 P Q P.length Q.length := by rw [tab2, if_neg (fun h => absurd h.1 (by omega))]
      rw [a2, a1, tab0, if_pos ⟨rfl, rfl⟩, List.drop_length, List.drop_length, nodeF]

theorem good_tab {P Q : List El} (hP : P.length ≤ 80) (hQ : Q.length ≤ 80) (i j : Nat) : Good (TabF P Q i j) 160 := (good_F _ _).mono (by simp; omega)
theorem good_0 (P Q : List El) (i j : Nat) : Good (tab0 P Q i j) 160 := by
  unfold tab0
  split
  · intro l hl; cases hl; simp
  · exact good_none _
theorem good_1 {P Q : List El} (hP : P.length ≤ 80) (hQ : Q.length ≤ 80) (i j : Nat) : Good (tab1 P Q i j) 160 := by
  unfold tab1
  split
  · exact good_best (good_0 _ _ _ _) (good_tab hP hQ _ _)
  · exact good_0 _ _ _ _
theorem good_2 {P Q : List El} (hP : P.length ≤ 80) (hQ : Q.length ≤ 80) (i j : Nat) : Good (tab2 P Q i j) 160 := by
  unfold tab2
  split
  · exact good_best (good_1 hP hQ _ _) (good_tab hP hQ _ _)
  · exact good_1 hP hQ _ _
theorem good_C {P Q : List El} (hP : P.length ≤ 80) (hQ : Q.length ≤ 80) {i j : Nat} (hi : i < P.length) (hj : j < Q.length) (c : Nat) : Good (tabC P Q i j c) 161 := by
  refine good_chars (B := 160) (fun _ => (good_F _ _).mono ?_) ((good_2 hP hQ i j).mono (by omega)) c
  split <;> split <;> simp <;> omega

/-- One character more. -/
theorem tab_next {P Q : List El} {i j : Nat} (hi : i < P.length) (hj : j < Q.length) (c : Nat) :
    tabC P Q i j (c + 1) = if goes (elAt P i) (elAt Q j) c = true then best2 (tabC P Q i j c) ((TabF P Q (if (elAt P i).isStar = true then i else i + 1) (if (elAt Q j).isStar = true then j else j + 1)).map (c :: ·)) else tabC P Q i j c := by
  rw [tabC, charsF]
  split
  · rw [TabF]
    have e1 : P.drop (if (elAt P i).isStar = true then i else i + 1) = if (elAt P i).isStar = true then elAt P i :: P.drop (i + 1) else P.drop (i + 1) := by split <;> first | rw [el_drop hi] | rfl
    have e2 : Q.drop (if (elAt Q j).isStar = true then j else j + 1) = if (elAt Q j).isStar = true then elAt Q j :: Q.drop (j + 1) else Q.drop (j + 1) := by split <;> first | rw [el_drop hj] | rfl
    rw [e1, e2]
    rfl
  · rfl
theorem tab_start (P Q : List El) (i j : Nat) : tabC P Q i j 0 = tab2 P Q i j := rfl

/-- A row of one-cell values. -/
def rowB (S : List Value) (t : TypeId) : Obj := .cells S.toArray t (0, 0)
theorem rowB_cell {w : World} {b t : Nat} {S : List Value} (h : w.heap[b]? = some (rowB S t)) {i : Nat} (hi : i < S.length) : w.cell? ⟨b, i, none⟩ = some (S.getD i undef) := by
  simp [World.cell?, h, rowB, hi]
theorem rowB_free {w : World} {b t : Nat} {S : List Value} (h : w.heap[b]? = some (rowB S t)) (i : Nat) : w.frozen? ⟨b, i, none⟩ = false := by
  simp [World.frozen?, h, rowB]
theorem rowB_set {w : World} {b t : Nat} {S : List Value} (h : w.heap[b]? = some (rowB S t)) (i : Nat) (v : Value) : (w.setCell ⟨b, i, none⟩ v).heap[b]? = some (rowB (S.set i v) t) := by
  rw [heap_setCell_same w b i _ t v h]
  simp [rowB]
theorem made_row (w : World) (n : Nat) (v : Value) (t : TypeId) : (w.alloc (.cells (madeCells #[v] n) t)).heap[w.heap.size]? = some (rowB (List.replicate n v) t) := by
  rw [heap_alloc_new]
  simp only [rowB, Option.some.injEq, Obj.cells.injEq, and_true]
  apply Array.ext'
  simp only [madeCells, Array.toList_map, Array.toList_range]
  rw [List.eq_replicate_iff]
  refine ⟨by simp, fun x hx => ?_⟩
  obtain ⟨i, _, rfl⟩ := List.mem_map.1 hx
  have h : i % (#[v] : Array Value).size = 0 := Nat.mod_one i
  rw [h]; rfl

theorem made_obj (n : Nat) (v : Value) (t : TypeId) : (.cells (madeCells #[v] n) t : Obj) = rowB (List.replicate n v) t := by
  have h := made_row { heap := #[], tape := fun _ _ => 0, drawn := 0, os := default, output := #[] } n v t
  rw [heap_alloc_new] at h
  exact Option.some.inj h

theorem info50 : (Tryd.prog.info? 50).map (fun i => (i.zero, i.size, i.bytes)) = some (some (.slice none 0 0), 1, 24) := by kernel_rfl
theorem info73 : (Tryd.prog.info? 73).map (fun i => (i.zero, i.size, i.bytes)) = some (some (.slice none 0 0), 1, 24) := by kernel_rfl
theorem info9b : (Tryd.prog.info? 9).map (fun i => (i.zero, i.size, i.bytes)) = some (some (.string ⟨#[]⟩), 1, 16) := by kernel_rfl

theorem make_strs (n : Nat) (hn : n ≤ 1000000) (w : World) : (Instr.makeSlice 50 (.int .i64 (n : Int)) (.int .i64 (n : Int))).run Tryd.prog w = .ok (.slice (some ⟨w.heap.size, 0, none⟩) n n) (w.alloc (.cells (madeCells #[.string ⟨#[]⟩] n) 9)) :=
  run_make_row' (P := Tryd.prog) 50 9 (.string ⟨#[]⟩) 16 Tryd.underlying50 info9b rfl .i64 .i64 n (by omega) (by omega) w
theorem make_rows (n : Nat) (hn : n ≤ 1000000) (w : World) : (Instr.makeSlice 90 (.int .i64 (n : Int)) (.int .i64 (n : Int))).run Tryd.prog w = .ok (.slice (some ⟨w.heap.size, 0, none⟩) n n) (w.alloc (.cells (madeCells #[.slice none 0 0] n) 50)) :=
  run_make_row' (P := Tryd.prog) 90 50 (.slice none 0 0) 24 Tryd.underlying90 info50 rfl .i64 .i64 n (by omega) (by omega) w
theorem make_rows2 (n : Nat) (hn : n ≤ 1000000) (w : World) : (Instr.makeSlice 91 (.int .i64 (n : Int)) (.int .i64 (n : Int))).run Tryd.prog w = .ok (.slice (some ⟨w.heap.size, 0, none⟩) n n) (w.alloc (.cells (madeCells #[.slice none 0 0] n) 73)) :=
  run_make_row' (P := Tryd.prog) 91 73 (.slice none 0 0) 24 Tryd.underlying91 info73 rfl .i64 .i64 n (by omega) (by omega) w

/-- A row of strings, a row of flags, of which the places from a number on are reckoned. -/
def xsF (P Q : List El) (i l : Nat) : List Value := (List.range (Q.length + 1)).map fun j => .string (if l ≤ j then ansS (TabF P Q i j) else ⟨#[]⟩)
def ysF (P Q : List El) (i l : Nat) : List Value := (List.range (Q.length + 1)).map fun j => .bool (if l ≤ j then (TabF P Q i j).isSome else false)

theorem xs_len (P Q : List El) (i l : Nat) : (xsF P Q i l).length = Q.length + 1 := by simp [xsF]
theorem ys_len (P Q : List El) (i l : Nat) : (ysF P Q i l).length = Q.length + 1 := by simp [ysF]
theorem xs_at {P Q : List El} {i l j : Nat} (hj : j ≤ Q.length) (hl : l ≤ j) : (xsF P Q i l).getD j undef = .string (ansS (TabF P Q i j)) := by
  rw [xsF, List.getD_eq_getElem?_getD, List.getElem?_map, List.getElem?_range (by omega)]
  simp [hl]
theorem ys_at {P Q : List El} {i l j : Nat} (hj : j ≤ Q.length) (hl : l ≤ j) : (ysF P Q i l).getD j undef = .bool (TabF P Q i j).isSome := by
  rw [ysF, List.getD_eq_getElem?_getD, List.getElem?_map, List.getElem?_range (by omega)]
  simp [hl]
theorem xs_zero (P Q : List El) (i : Nat) : xsF P Q i (Q.length + 1) = List.replicate (Q.length + 1) (.string ⟨#[]⟩) := by
  rw [List.eq_replicate_iff]
  refine ⟨xs_len _ _ _ _, fun x hx => ?_⟩
  obtain ⟨j, hj, rfl⟩ := List.mem_map.1 hx
  rw [List.mem_range] at hj
  rw [if_neg (by omega)]
theorem ys_zero (P Q : List El) (i : Nat) : ysF P Q i (Q.length + 1) = List.replicate (Q.length + 1) (.bool false) := by
  rw [List.eq_replicate_iff]
  refine ⟨ys_len _ _ _ _, fun x hx => ?_⟩
  obtain ⟨j, hj, rfl⟩ := List.mem_map.1 hx
  rw [List.mem_range] at hj
  rw [if_neg (by omega)]
theorem xs_set (P Q : List El) (i j : Nat) : (xsF P Q i (j + 1)).set j (.string (ansS (TabF P Q i j))) = xsF P Q i j := by
  apply List.ext_getElem
  · simp [xsF]
  · intro k h1 h2
    rw [List.getElem_set]
    simp only [xsF, List.getElem_map, List.getElem_range]
    split
    · rename_i h; subst h; simp
    · rename_i h
      by_cases e : j ≤ k
      · rw [if_pos (by omega), if_pos e]
      · rw [if_neg (by omega), if_neg e]
theorem ys_set (P Q : List El) (i j : Nat) : (ysF P Q i (j + 1)).set j (.bool (TabF P Q i j).isSome) = ysF P Q i j := by
  apply List.ext_getElem
  · simp [ysF]
  · intro k h1 h2
    rw [List.getElem_set]
    simp only [ysF, List.getElem_map, List.getElem_range]
    split
    · rename_i h; subst h; simp
    · rename_i h
      by_cases e : j ≤ k
      · rw [if_pos (by omega), if_pos e]
      · rw [if_neg (by omega), if_neg e]

/-- A row of the table, done. -/
def RowAt (W : World) (ob sb : Nat) (P Q : List El) (r : Nat) : Prop :=
  ∃ x y, sb < x ∧ sb < y ∧ x < W.heap.size ∧ y < W.heap.size ∧ W.cell? ⟨ob, r, none⟩ = some (.slice (some ⟨x, 0, none⟩) (Q.length + 1) (Q.length + 1)) ∧ W.cell? ⟨sb, r, none⟩ = some (.slice (some ⟨y, 0, none⟩) (Q.length + 1) (Q.length + 1)) ∧
    (∀ j, j ≤ Q.length → W.cell? ⟨x, j, none⟩ = some (.string (ansS (TabF P Q r j)))) ∧ ∀ j, j ≤ Q.length → W.cell? ⟨y, j, none⟩ = some (.bool (TabF P Q r j).isSome)

theorem RowAt.below {W W' : World} {ob sb : Nat} {P Q : List El} {r : Nat} (h : RowAt W ob sb P Q r) (hb : Below W.heap.size W W') (ho : ob < W.heap.size) (hs : sb < W.heap.size) : RowAt W' ob sb P Q r := by
  obtain ⟨x, y, gx, gy, hx, hy, c1, c2, c3, c4⟩ := h
  exact ⟨x, y, gx, gy, Nat.lt_of_lt_of_le hx hb.size, Nat.lt_of_lt_of_le hy hb.size, (hb.cell (p := ⟨ob, r, none⟩) ho).trans c1, (hb.cell (p := ⟨sb, r, none⟩) hs).trans c2, fun j hj => (hb.cell (p := ⟨x, j, none⟩) hx).trans (c3 j hj), fun j hj => (hb.cell (p := ⟨y, j, none⟩) hy).trans (c4 j hj)⟩

/-- The same stores in a world and in one grown from it. -/
theorem below_spec {wr wa : World} (a b : Addr) (u v : Value) (h : Below wr.heap.size wr wa) : Below ((wr.setCell a u).setCell b v).heap.size ((wr.setCell a u).setCell b v) ((wa.setCell a u).setCell b v) := by
  refine ⟨h.os, h.tape, h.output, by have := h.size; simpa using this, fun k hk => ?_⟩
  have hk' : k < wr.heap.size := by simpa using hk
  have e := h.block k hk'
  simp only [World.setCell, Array.getElem?_modify]
  rw [e]

/-- The outer rows with one place set. -/
theorem spec_rows {wr : World} {ob sb i : Nat} {lo ls : List Value} (hne : ob ≠ sb) (ho : wr.heap[ob]? = some (rowB lo 50)) (hs : wr.heap[sb]? = some (rowB ls 73)) (u v : Value) :
    ((wr.setCell ⟨ob, i, none⟩ u).setCell ⟨sb, i, none⟩ v).heap[ob]? = some (rowB (lo.set i u) 50) ∧ ((wr.setCell ⟨ob, i, none⟩ u).setCell ⟨sb, i, none⟩ v).heap[sb]? = some (rowB (ls.set i v) 73) := by
  constructor
  · rw [Below.heap_setCell _ _ _ _ (by simpa using hne)]
    exact rowB_set ho i u
  · exact rowB_set (by rw [Below.heap_setCell _ _ _ _ (by simpa using Ne.symm hne)]; exact hs) i v

theorem cell_other {w : World} {b i : Nat} {u : Value} {c : Addr} (h : c.block ≠ b) : (w.setCell ⟨b, i, none⟩ u).cell? c = w.cell? c := World.cell?_of_block (Below.heap_setCell _ _ _ _ (by simpa using h))

theorem RowAt.spec {wr : World} {ob sb i r : Nat} {lo ls : List Value} {P Q : List El} (h : RowAt wr ob sb P Q r) (hlt : ob < sb) (hr : i ≠ r) (ho : wr.heap[ob]? = some (rowB lo 50)) (hs : wr.heap[sb]? = some (rowB ls 73)) (hlo : r < lo.length) (hls : r < ls.length) (u v : Value) :
    RowAt ((wr.setCell ⟨ob, i, none⟩ u).setCell ⟨sb, i, none⟩ v) ob sb P Q r := by
  obtain ⟨x, y, gx, gy, hx, hy, c1, c2, c3, c4⟩ := h
  obtain ⟨s1, s2⟩ := spec_rows (i := i) (by omega) ho hs u v
  refine ⟨x, y, gx, gy, by simpa using hx, by simpa using hy, ?_, ?_, fun j hj => ?_, fun j hj => ?_⟩
  · rw [rowB_cell s1 (by simpa using hlo), ← c1, rowB_cell ho hlo]
    simp [List.getD_eq_getElem?_getD, hr]
  · rw [rowB_cell s2 (by simpa using hls), ← c2, rowB_cell hs hls]
    simp [List.getD_eq_getElem?_getD, hr]
  · rw [cell_other (show x ≠ sb by omega), cell_other (show x ≠ ob by omega)]
    exact c3 j hj
  · rw [cell_other (show y ≠ sb by omega), cell_other (show y ≠ ob by omega)]
    exact c4 j hj

theorem modify_push (xs : Array Obj) (o : Obj) (i : Nat) (f : Obj → Obj) (h : i < xs.size) : (xs.modify i f).push o = (xs.push o).modify i f := by
  apply Array.ext_getElem?
  intro k
  simp only [Array.getElem?_push, Array.getElem?_modify, Array.size_modify]
  by_cases h1 : k = xs.size
  · subst h1
    rw [if_pos rfl, if_pos rfl, if_neg (by omega)]
  · rw [if_neg h1, if_neg h1]

theorem setCell_alloc (w : World) (a : Addr) (u : Value) (o : Obj) (h : a.block < w.heap.size) : (w.setCell a u).alloc o = (w.alloc o).setCell a u := by
  simp only [World.setCell, World.alloc, modify_push _ _ _ _ h]

/-- What a store into the outer rows meets. -/
theorem spec_store {wr wa : World} {ob sb i : Nat} {lo ls : List Value} (hne : ob ≠ sb) (ho : wr.heap[ob]? = some (rowB lo 50)) (hs : wr.heap[sb]? = some (rowB ls 73)) (hlo : i < lo.length) (hls : i < ls.length) (hb : Below wr.heap.size wr wa) (u : Value) :
    wa.cell? ⟨ob, i, none⟩ = some (lo.getD i undef) ∧ wa.frozen? ⟨ob, i, none⟩ = false ∧ (wa.setCell ⟨ob, i, none⟩ u).cell? ⟨sb, i, none⟩ = some (ls.getD i undef) ∧ (wa.setCell ⟨ob, i, none⟩ u).frozen? ⟨sb, i, none⟩ = false := by
  have h1 : wa.heap[ob]? = some (rowB lo 50) := (hb.block _ (lt_of_block ho)).trans ho
  have h2 : wa.heap[sb]? = some (rowB ls 73) := (hb.block _ (lt_of_block hs)).trans hs
  have h3 : (wa.setCell ⟨ob, i, none⟩ u).heap[sb]? = some (rowB ls 73) := by rw [Below.heap_setCell _ _ _ _ (by simpa using Ne.symm hne)]; exact h2
  exact ⟨rowB_cell h1 hlo, rowB_free h1 i, rowB_cell h3 hls, rowB_free h3 i⟩

/-- The two new rows, behind the stores. -/
theorem new_rows {wr : World} {A B : Obj} {ob sb i : Nat} (u v : Value) (ho : ob < wr.heap.size) (hs : sb < wr.heap.size) :
    ((((wr.alloc A).alloc B).setCell ⟨ob, i, none⟩ u).setCell ⟨sb, i, none⟩ v).heap[wr.heap.size]? = some A ∧ ((((wr.alloc A).alloc B).setCell ⟨ob, i, none⟩ u).setCell ⟨sb, i, none⟩ v).heap[wr.heap.size + 1]? = some B := by
  constructor
  · rw [Below.heap_setCell _ _ _ _ (by simp; omega), Below.heap_setCell _ _ _ _ (by simp; omega)]
    exact heap_alloc2_old _ _ _
  · rw [Below.heap_setCell _ _ _ _ (by simp; omega), Below.heap_setCell _ _ _ _ (by simp; omega)]
    exact heap_alloc2_new _ _ _

/-- The row under way, done. -/
theorem row_done {V wq : World} {ob sb i x y : Nat} {lo ls : List Value} {P Q : List El} (hb : Below V.heap.size V wq) (ho : V.heap[ob]? = some (rowB lo 50)) (hs : V.heap[sb]? = some (rowB ls 73)) (hlo : i < lo.length) (hls : i < ls.length)
    (h1 : lo.getD i undef = .slice (some ⟨x, 0, none⟩) (Q.length + 1) (Q.length + 1)) (h2 : ls.getD i undef = .slice (some ⟨y, 0, none⟩) (Q.length + 1) (Q.length + 1)) (gx : sb < x) (gy : sb < y)
    (hx : wq.heap[x]? = some (rowB (xsF P Q i 0) 9)) (hy : wq.heap[y]? = some (rowB (ysF P Q i 0) 4)) : RowAt wq ob sb P Q i := by
  refine ⟨x, y, gx, gy, lt_of_block hx, lt_of_block hy, ?_, ?_, fun j hj => ?_, fun j hj => ?_⟩
  · rw [hb.cell (p := ⟨ob, i, none⟩) (lt_of_block ho), rowB_cell ho hlo, h1]
  · rw [hb.cell (p := ⟨sb, i, none⟩) (lt_of_block hs), rowB_cell hs hls, h2]
  · rw [rowB_cell hx (by rw [xs_len]; omega), xs_at hj (Nat.zero_le _)]
  · rw [rowB_cell hy (by rw [ys_len]; omega), ys_at hj (Nat.zero_le _)]

/-- The table's answer with the characters below a number gone over, or at its edge. -/
def tabD (P Q : List El) (i j c : Nat) : Option (List Nat) := if i < P.length ∧ j < Q.length then tabC P Q i j c else tab2 P Q i j

theorem tabD_zero (P Q : List El) (i j : Nat) : tabD P Q i j 0 = tab2 P Q i j := by
  unfold tabD
  split <;> rfl
theorem tabD_end {P Q : List El} (hP : ∀ x ∈ P, x.ok) (hQ : ∀ x ∈ Q, x.ok) {i j c : Nat} (hi : i ≤ P.length) (hj : j ≤ Q.length) (hc : c ≤ 128) (h : ¬ (c < 128 ∧ i < P.length ∧ j < Q.length)) : tabD P Q i j c = TabF P Q i j := by
  unfold tabD
  split
  · rename_i h1
    obtain rfl : c = 128 := by omega
    exact (tab_in hP hQ h1.1 h1.2).symm
  · rename_i h1
    exact (tab_edge hP hQ hi hj (by omega)).symm
theorem good_D {P Q : List El} (hP : P.length ≤ 80) (hQ : Q.length ≤ 80) (i j c : Nat) : Good (tabD P Q i j c) 161 := by
  unfold tabD
  split
  · rename_i h1; exact good_C hP hQ h1.1 h1.2 c
  · exact (good_2 hP hQ i j).mono (by omega)
theorem tabD_next {P Q : List El} {i j : Nat} (hi : i < P.length) (hj : j < Q.length) (c : Nat) :
    tabD P Q i j (c + 1) = if goes (elAt P i) (elAt Q j) c = true then best2 (tabD P Q i j c) ((TabF P Q (if (elAt P i).isStar = true then i else i + 1) (if (elAt Q j).isStar = true then j else j + 1)).map (c :: ·)) else tabD P Q i j c := by
  have e : ∀ k, tabD P Q i j k = tabC P Q i j k := fun k => by rw [tabD, if_pos ⟨hi, hj⟩]
  rw [e, e]
  exact tab_next hi hj c

/-- What the table holds where a node looks. -/
theorem get_next {V W' : World} {ob r c : Nat} {P Q : List El} (h : RowAt V ob (ob + 1) P Q r) (hb : Below V.heap.size V W') (hs : ob + 1 < V.heap.size) (hc : c ≤ Q.length) :
    ∃ X Y, W'.cell? ⟨ob, r, none⟩ = some (.slice (some ⟨X, 0, none⟩) (Q.length + 1) (Q.length + 1)) ∧ W'.cell? ⟨ob + 1, r, none⟩ = some (.slice (some ⟨Y, 0, none⟩) (Q.length + 1) (Q.length + 1)) ∧ W'.cell? ⟨X, c, none⟩ = some (.string (ansS (TabF P Q r c))) ∧ W'.cell? ⟨Y, c, none⟩ = some (.bool (TabF P Q r c).isSome) := by
  obtain ⟨x, y, gx, gy, hx, hy, c1, c2, c3, c4⟩ := h.below hb (by omega) hs
  exact ⟨x, y, c1, c2, c3 c hc, c4 c hc⟩
theorem get_this {V W' : World} {ob i l c x y : Nat} {lo ls : List Value} {P Q : List El} (hb : Below V.heap.size V W') (ho : V.heap[ob]? = some (rowB lo 50)) (hs : V.heap[ob + 1]? = some (rowB ls 73)) (hlo : i < lo.length) (hls : i < ls.length)
    (h1 : lo.getD i undef = .slice (some ⟨x, 0, none⟩) (Q.length + 1) (Q.length + 1)) (h2 : ls.getD i undef = .slice (some ⟨y, 0, none⟩) (Q.length + 1) (Q.length + 1))
    (hx : W'.heap[x]? = some (rowB (xsF P Q i l) 9)) (hy : W'.heap[y]? = some (rowB (ysF P Q i l) 4)) (hc : c ≤ Q.length) (hl : l ≤ c) :
    ∃ X Y, W'.cell? ⟨ob, i, none⟩ = some (.slice (some ⟨X, 0, none⟩) (Q.length + 1) (Q.length + 1)) ∧ W'.cell? ⟨ob + 1, i, none⟩ = some (.slice (some ⟨Y, 0, none⟩) (Q.length + 1) (Q.length + 1)) ∧ W'.cell? ⟨X, c, none⟩ = some (.string (ansS (TabF P Q i c))) ∧ W'.cell? ⟨Y, c, none⟩ = some (.bool (TabF P Q i c).isSome) := by
  refine ⟨x, y, ?_, ?_, ?_, ?_⟩
  · rw [hb.cell (p := ⟨ob, i, none⟩) (lt_of_block ho), rowB_cell ho hlo, h1]
  · rw [hb.cell (p := ⟨ob + 1, i, none⟩) (lt_of_block hs), rowB_cell hs hls, h2]
  · rw [rowB_cell hx (by rw [xs_len]; omega), xs_at hc hl]
  · rw [rowB_cell hy (by rw [ys_len]; omega), ys_at hc hl]

/-- best, as a region that draws wants it. -/
theorem best_q {a b : Option (List Nat)} {B : Nat} (w : World) (ha : Good a B) (hb : Good b B) (hB : B ≤ 1000) : Calls Tryd.prog 42 #[.string (ansS a), .bool a.isSome, .string (ansS b), .bool b.isSome] w fun e w' => e = .returned (.tuple #[.string (ansS (best2 a b)), .bool (best2 a b).isSome]) ∧ w' = w :=
  (best_any a b w ha.okL hb.okL (Nat.le_trans ha.len (by omega)) (Nat.le_trans hb.len (by omega))).mono fun _ _ ⟨h1, h2⟩ => ⟨h1, h2.symm⟩

set_option maxRecDepth 100000 in
set_option maxHeartbeats 2000000 in
/-- Against none, the first answer stands. -/
theorem best_no (sa sb : ByteArray) (q : Bool) (w : World) : Calls Tryd.prog 42 #[.string sa, .bool q, .string sb, .bool false] w fun e w' => e = .returned (.tuple #[.string sa, .bool q]) ∧ w = w' := by
  go_enter Tryd.func42, Tryd.ntmps42
  go_wp2_with fail
  go_ret2
  exact ⟨rfl, rfl⟩

theorem best_cons_any (a b : Option (List Nat)) (c : Nat) (w : World) {B : Nat} (ha : Good a B) (hb : Good b B) (hB : B ≤ 1000) (hc : c < 256) :
    Calls Tryd.prog 42 #[.string (ansS a), .bool a.isSome, .string (bytesOf [c] ++ ansS b), .bool b.isSome] w fun e w' => e = .returned (.tuple #[.string (ansS (best2 a (b.map (c :: ·)))), .bool (best2 a (b.map (c :: ·))).isSome]) ∧ w = w' := by
  cases b with
  | none => exact best_no _ _ _ _
  | some l =>
    have e : bytesOf [c] ++ ansS (some l) = ansS (some (c :: l)) := by rw [ansS, ansS, ← bytesOf_append]; rfl
    rw [e]
    have hg := good_cons hb hc
    exact best_any a (some (c :: l)) w ha.okL hg.okL (Nat.le_trans ha.len (by omega)) (Nat.le_trans hg.len (by omega))

end Go.Proofs.YtgnmanmlnbidfaaDoor
