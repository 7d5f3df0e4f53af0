/- Wildmat: the reference's ParseList, by a walk through its text. -/
import Derived.Test.YtgnmanmlnbidfaaDoorRComp
import Derived.Test.YtgnmanmlnbidfaaDoorRVer
import Derived.Test.YtgnmanmlnbidfaaDoorPList
namespace Go.Proofs.YtgnmanmlnbidfaaDoor
open Go.RowKit

/-- The parts from a byte on. -/
def remL (s : ByteArray) (a : Nat) : List ByteArray := if a ≤ s.size then commas (rest s a) else []

theorem rem_step {s : ByteArray} {a i : Nat} (h1 : a ≤ i) (h2 : i ≤ s.size) (hi : i = s.size ∨ (chars s).getD i 0 = 44) (h : ∀ j, a ≤ j → j < i → (chars s).getD j 0 ≠ 44) : remL s a = s.extract a i :: remL s (i + 1) := by
  unfold remL
  rw [if_pos (by omega)]
  rcases Nat.lt_or_ge i s.size with h3 | h3
  · rw [if_pos (by omega)]
    exact commas_rest_hit h1 h3 (hi.resolve_left (by omega)) h
  · obtain rfl : i = s.size := by omega
    rw [if_neg (by omega)]
    exact commas_rest_miss h

theorem rem_zero (s : ByteArray) : remL s 0 = commas s := by rw [remL, if_pos (Nat.zero_le _), rest_zero]
theorem rem_end (s : ByteArray) : remL s (s.size + 1) = [] := by rw [remL, if_neg (by omega)]

theorem sub_chars (s : ByteArray) (a q i : Nat) : chars (s.extract (a + q) i) = (chars (s.extract a i)).drop q := by
  unfold chars
  rw [Lib.extract_data, Lib.extract_data, ← List.map_drop, List.drop_take, List.drop_drop, show i - (a + q) = i - a - q by omega]

theorem sub_head {s : ByteArray} {a i : Nat} (h1 : a < i) (h2 : i ≤ s.size) : (chars (s.extract a i)).getD 0 256 = (chars s).getD a 0 := by
  have hl : s.data.toList.length = s.size := by simp
  unfold chars
  rw [Lib.extract_data, List.getD_eq_getElem?_getD, List.getD_eq_getElem?_getD, List.getElem?_map, List.getElem?_map, List.getElem?_take_of_lt (by omega), List.getElem?_drop, Nat.add_zero, List.getElem?_eq_getElem (by omega)]
  rfl

theorem sub_none (s : ByteArray) (a : Nat) : (chars (s.extract a a)).getD 0 256 = 256 := by
  have : (chars (s.extract a a)).length = 0 := by rw [chars_length, ByteArray.size_extract]; omega
  rw [List.getD_eq_getElem?_getD, List.getElem?_eq_none (by omega)]
  rfl

/-- The items of a list under way: none lies in the list's own row. -/
def RIs (w : World) (g : Option Nat) (its : List RIt) : Prop :=
  ∀ t ∈ its, t.v ≤ 3 ∧ IsRef w w.heap.size t.A t.L ∧ t.L.length ≤ 80 ∧ (∀ e ∈ t.L, e.ok) ∧ ∀ a, t.A = some a → a.block < w.heap.size ∧ some a.block ≠ g

theorem IsRef.kept_ne {w w' : World} {B : Nat} {L : List El} {A : Option Addr} {row : Option Nat} (h : IsRef w B A L) (hg : w.grownBy w' row) (h2 : ∀ a, A = some a → some a.block ≠ row) : IsRef w' B A L := by
  rcases h with h3 | ⟨b, off, h3, h4, h5⟩
  · exact .inl h3
  · exact .inr ⟨b, off, h3, h4, fun i hi => hg.cell (h5 i hi) (show some b ≠ row from h2 _ h3)⟩

theorem RIs.kept {w w' : World} {g : Option Nat} {its : List RIt} (h : RIs w g its) (hg : w.grownBy w' g) : RIs w' g its := by
  intro t ht
  obtain ⟨h1, h2, h3, h4, h5⟩ := h t ht
  exact ⟨h1, (h2.kept_ne hg (fun a ha => (h5 a ha).2)).up hg.size, h3, h4, fun a ha => ⟨Nat.lt_of_lt_of_le (h5 a ha).1 hg.size, (h5 a ha).2⟩⟩

theorem RIs.kept_none {w w' : World} {g : Option Nat} {its : List RIt} (h : RIs w g its) (hg : w.grownBy w' none) : RIs w' g its := h.kept (hg.but _)

theorem RIs.more {w : World} {g : Option Nat} {its : List RIt} {t : RIt} (h : RIs w g its) (hv : t.v ≤ 3) (h1 : IsRef w w.heap.size t.A t.L) (h2 : t.L.length ≤ 80) (h3 : ∀ e ∈ t.L, e.ok) (h4 : ∀ a, t.A = some a → a.block < w.heap.size ∧ some a.block ≠ g) : RIs w g (its ++ [t]) := by
  intro x hx
  rcases List.mem_append.1 hx with hx | hx
  · exact h x hx
  · rw [List.mem_singleton.1 hx]
    exact ⟨hv, h1, h2, h3, h4⟩

/-- The reference's item's own block. -/
def xB (v : Nat) (txt : ByteArray) (p : Value) : Obj := .cells #[.int .i64 (v : Nat), .string txt, p] 101 (0, 0)

theorem xB_cells {w : World} {b v : Nat} {txt : ByteArray} {p : Value} (h : w.heap[b]? = some (xB v txt p)) : w.cell? ⟨b, 0, none⟩ = some (.int .i64 (v : Nat)) ∧ w.cell? ⟨b, 1, none⟩ = some (.string txt) ∧ w.cell? ⟨b, 2, none⟩ = some p ∧ w.frozen? ⟨b, 0, none⟩ = false ∧ w.frozen? ⟨b, 1, none⟩ = false ∧ w.frozen? ⟨b, 2, none⟩ = false := by
  simp [World.cell?, World.frozen?, h, xB]

theorem xB_mark {w : World} {b v v' : Nat} {txt : ByteArray} {p : Value} (h : w.heap[b]? = some (xB v txt p)) : (w.setCell ⟨b, 0, none⟩ (.int .i64 (v' : Nat))).heap[b]? = some (xB v' txt p) := by
  rw [heap_setCell_same w b 0 _ 101 _ h]
  simp [xB]
theorem xB_text {w : World} {b v : Nat} {txt txt' : ByteArray} {p : Value} (h : w.heap[b]? = some (xB v txt p)) : (w.setCell ⟨b, 1, none⟩ (.string txt')).heap[b]? = some (xB v txt' p) := by
  rw [heap_setCell_same w b 1 _ 101 _ h]
  simp [xB]
theorem xB_pat {w : World} {b v : Nat} {txt : ByteArray} {p p' : Value} (h : w.heap[b]? = some (xB v txt p)) : (w.setCell ⟨b, 2, none⟩ p').heap[b]? = some (xB v txt p') := by
  rw [heap_setCell_same w b 2 _ 101 _ h]
  simp [xB]

theorem info101 : (Tryd.prog.info? 101).map (fun i => (i.zero, i.size, i.bytes)) = some (some (.agg #[.int .i64 0, .string ⟨#[]⟩, .slice none 0 0]), 3, 48) := by kernel_rfl

/-- What ParseList leaves. -/
def RListPost (w : World) (R : List (Nat × List El) × Nat × Nat) (e : Ending) (w' : World) : Prop :=
  (∃ A cap its, e = .returned (.tuple #[.slice A (List.length its) cap, .int .i64 (R.2.1 : Nat), .int .i64 (R.2.2 : Nat)]) ∧ its.map RIt.it = R.1 ∧ IsRItems w' w'.heap.size A its) ∧ Below w.heap.size w w'

theorem rlist_none {w w' : World} {R : List (Nat × List El) × Nat × Nat} {a n : Nat} (h : R = ([], a, n)) (hB : Below w.heap.size w w') : RListPost w R (.returned (.tuple #[.slice none 0 0, .int .i64 a, .int .i64 n])) w' := by
  subst h
  exact ⟨⟨none, 0, [], rfl, rfl, .inl rfl, fun _ h => by (cases h), by simp⟩, hB⟩

theorem rlist_none2 {w w' : World} {R : List (Nat × List El) × Nat × Nat} {a n : Nat} {x : Int} (h : R = ([], a, n)) (hx : x = (a : Nat)) (hB : Below w.heap.size w w') : RListPost w R (.returned (.tuple #[.slice none 0 0, .int .i64 x, .int .i64 n])) w' := by
  subst hx
  exact rlist_none h hB

theorem rits_done {w : World} {base : Nat} {A : Option Addr} {cap : Nat} {its : List RIt} (ho : w.ownsRow base 101 3 (.slice A its.length cap) its.length (its.flatMap RIt.vals)) (hi : RIs w (Value.slice A its.length cap).ownBlock its) (hl : its.length ≤ 64) : IsRItems w w.heap.size A its := by
  refine ⟨?_, fun t ht => by obtain ⟨h1, h2, h3, h4, _⟩ := hi t ht; exact ⟨h1, h2, h3, h4⟩, hl⟩
  rcases ho.2 with ⟨_, h⟩ | ⟨g, cap, cur, hv, hg, hh, _, _, _, _⟩
  · exact .inl (by rw [List.eq_nil_of_length_eq_zero h]; rfl)
  · cases hv
    refine .inr ⟨g, 0, rfl, lt_of_block hh, fun i hi => ?_⟩
    rw [Nat.zero_add]
    have h := ho.cells rfl i ((its.flatMap RIt.vals).getD i undef) (by rw [List.getD_eq_getElem?_getD, List.getElem?_eq_getElem hi]; rfl)
    have hadd : ∀ j, (⟨g, 0, none⟩ : Addr).add j = ⟨g, 0 + j, none⟩ := fun j => by unfold Addr.add; split <;> simp_all
    rw [hadd, Nat.zero_add] at h
    exact h

/-- One item more: what the append leaves. -/
theorem rit_all {w wa w1 : World} {v v1 : Value} {n : Nat} {xs ys : List Value} {its : List RIt} (ho : wa.ownsRow w.heap.size 101 3 v n xs) (hb : Below w.heap.size w wa) (hi : RIs wa v.ownBlock its) (hg : wa.grownBy w1 v.ownBlock) (hown : w1.ownsRow w.heap.size 101 3 v1 (n + 1) ys) (hat : v1.ownBlock = v.ownBlock ∨ v1.ownBlock = some wa.heap.size) :
    ∃ g cap, v1 = .slice (some ⟨g, 0, none⟩) (n + 1) cap ∧ Hid (w1.ownsRow w.heap.size 101 3 (.slice (some ⟨g, 0, none⟩) (n + 1) cap) (n + 1) ys) ∧ Hid (RIs w1 (Value.slice (some ⟨g, 0, none⟩) (n + 1) cap).ownBlock its) ∧ Hid (Below w.heap.size w w1) := by
  have hb1 : Below w.heap.size w w1 := hb.grown hg hb.size (fun k e => (ho.lt _ e).1)
  have hi1 : RIs w1 v1.ownBlock its := by
    rcases hat with h | h
    · rw [h]; exact hi.kept hg
    · rw [h]
      intro t ht
      obtain ⟨h1, h2, h3, h4, h5⟩ := hi t ht
      exact ⟨h1, (h2.kept_ne hg (fun a ha => (h5 a ha).2)).up hg.size, h3, h4, fun a ha => ⟨Nat.lt_of_lt_of_le (h5 a ha).1 hg.size, by have := (h5 a ha).1; simp; omega⟩⟩
  have hform : ∃ g cap, v1 = .slice (some ⟨g, 0, none⟩) (n + 1) cap := by
    rcases hown.2 with ⟨_, h⟩ | ⟨g, cap, cur, hv, _⟩
    · omega
    · exact ⟨g, cap, hv⟩
  obtain ⟨g, cap, rfl⟩ := hform
  exact ⟨g, cap, rfl, Lib.hid hown, Lib.hid hi1, Lib.hid hb1⟩

theorem cell_three_new (w : World) (x y z : Value) (t : TypeId) : ∀ j u, [x, y, z][j]? = some u → (w.alloc (.cells #[x, y, z] t)).cell? ((⟨w.heap.size, 0, none⟩ : Addr).add j) = some u := cell_row_new w [x, y, z] t

set_option maxRecDepth 100000 in
set_option maxHeartbeats 8000000 in
theorem RParseList_any (s : ByteArray) (w : World) (hs : s.size ≤ 1000) : Calls Tryd.prog 22 #[.string s] w (RListPost w (parseF s)) := by
  by_cases h0 : s.size = 0
  · have E : Hid (parseF s = ([], 0, 4)) := Lib.hid (by rw [parseF, if_pos h0])
    obtain rfl : s = ByteArray.empty := ByteArray.ext (Array.eq_empty_of_size_eq_zero h0)
    clear h0 hs
    go_enter Tryd.func22, Tryd.ntmps22
    go_wp2_with fail
    go_ret3
    exact rlist_none E.out (Below.refl _ _)
  · have hemp : s.toList.isEmpty = false := by rw [isEmpty_dec, decide_eq_false h0]
    have E : Hid (parseF s = listGo (remL s 0) [] 0) := Lib.hid (by rw [parseF, if_neg h0, rem_zero])
    obtain ⟨i0, hi, hz0, hz1, hz2⟩ := info_parts info101
    have Hi := Lib.hid hi
    have Z0 := Lib.hid hz0
    have Z1 := Lib.hid hz1
    have Z2 := Lib.hid hz2
    clear hi hz0 hz1 hz2 h0
    have HO0 : Hid (w.ownsRow w.heap.size 101 3 (.slice none 0 0) 0 []) := Lib.hid (World.ownsRow_nil _ _ _ _)
    go_enter Tryd.func22, Tryd.ntmps22
    go_wp2_with fail
    go_loopw [5, 6, 7] (fun v5 v6 v7 wr => ∃ (a i : Nat) (its : List RIt) (A : Option Addr) (cap : Nat), a ≤ i ∧ i ≤ s.size + 1 ∧ v5 = .slice A its.length cap ∧ v6 = .int .i64 a ∧ v7 = .int .i64 i ∧ Hid (i = s.size + 1 → a = s.size + 1) ∧ Hid (∀ j, a ≤ j → j < i → (chars s).getD j 0 ≠ 44) ∧ Hid (parseF s = listGo (remL s a) (its.map RIt.it) a) ∧ Hid (wr.ownsRow w.heap.size 101 3 (.slice A its.length cap) its.length (its.flatMap RIt.vals)) ∧ Hid (RIs wr (Value.slice A its.length cap).ownBlock its) ∧ Hid (Below w.heap.size w wr) ∧ Hid (its.length ≤ 64)) (fun _ _ v7 _ => (s.size + 1 - intOf v7).toNat)
    case atStart => exact ⟨0, 0, [], none, 0, by omega, by omega, rfl, rfl, rfl, Lib.hid (by omega), Lib.hid (fun j h1 h2 => by omega), E, HO0, Lib.hid (fun t ht => by cases ht), Lib.hid (Below.refl _ _), Lib.hid (by simp)⟩
    case round =>
      obtain ⟨a, i, its, A, cap, hai, his, rfl, rfl, rfl, HEND, HNO, HE, HO, HI, HB, HLN⟩ := hrel
      by_cases hile : i ≤ s.size
      · have hid : decide ((i : Int) ≤ (s.size : Int)) = true := decide_eq_true (by omega)
        by_cases hgo : i < s.size ∧ (chars s).getD i 0 ≠ 44
        · obtain ⟨hlt, hc⟩ := hgo
          have hix := fun W => idx_at s i hlt (i : Int) rfl W
          have hd : decide ((i : Int) < (s.size : Int)) = true := decide_eq_true (by omega)
          have hne : (((chars s).getD i 0 : Int) != 44) = true := by rw [bne_iff_ne]; omega
          have HNO2 : Hid (∀ j, a ≤ j → j < i + 1 → (chars s).getD j 0 ≠ 44) := Lib.hid (fun j h1 h2 => by
            rcases Nat.lt_succ_iff_lt_or_eq.1 h2 with h3 | rfl
            · exact HNO.out j h1 h3
            · exact hc)
          have hc256 := chars_lt s i
          clear hc
          generalize (chars s).getD i 0 = c at hix hne hc256
          go_wp2_with fail
          go_roundw
          case measure => simp [intOf]; omega
          case rel => exact ⟨a, i + 1, its, A, cap, by omega, by omega, rfl, rfl, by go_num, Lib.hid (by omega), HNO2, HE, HO, HI, HB, HLN⟩
        · have hcm : Hid (i = s.size ∨ (chars s).getD i 0 = 44) := Lib.hid (by
            rcases Nat.lt_or_ge i s.size with h | h
            · right
              exact Decidable.byContradiction fun h2 => hgo ⟨h, h2⟩
            · left; omega)
          have HST := Lib.hid (rem_step hai hile hcm.out HNO.out)
          go_upto_region 8 with fail
          go_cut [30] (fun v30 wx => v30 = .bool false ∧ wx = wr)
          case first =>
            rcases Nat.lt_or_ge i s.size with hlt | hge
            · have hix := fun W => idx_at s i hlt (i : Int) rfl W
              have hc := hcm.out.resolve_left (by omega)
              rw [hc] at hix
              have hd : decide ((i : Int) < (s.size : Int)) = true := decide_eq_true (by omega)
              clear hc hgo
              go_wp2_with fail
              go_meet
              case rel => exact ⟨rfl, rfl⟩
            · have hd : decide ((i : Int) < (s.size : Int)) = false := decide_eq_false (by omega)
              clear hgo
              go_wp2_with fail
              go_meet
              case rel => exact ⟨rfl, rfl⟩
          obtain ⟨rfl, hw⟩ := hcut
          subst hw
          generalize wc = w0 at *
          clear hgo
          by_cases hf : its.length = 64
          · have HF : Hid (parseF s = ([], a, 9)) := Lib.hid (by rw [HE.out, HST.out, listGo, if_pos (by rw [List.length_map]; exact hf)])
            have c64 : ((its.length : Int) == 64) = true := by rw [hf]; rfl
            clear hf
            go_wp2_with fail
            go_ret3
            exact rlist_none HF.out HB.out
          · have hful : Hid ((its.map RIt.it).length ≠ 64) := Lib.hid (by rw [List.length_map]; exact hf)
            have c64 : ((its.length : Int) == 64) = false := by simp only [beq_eq_false_iff_ne, ne_eq]; omega
            clear hf
            go_upto_region 13 with fail
            obtain ⟨xb, hxb⟩ : ∃ xb, w0.heap.size = xb := ⟨_, rfl⟩
            obtain ⟨W3, hW3⟩ : ∃ W3, w0.alloc (.cells #[.int .i64 1, .string ⟨#[]⟩, .slice none 0 0] 101) = W3 := ⟨_, rfl⟩
            have HX3 : Hid (W3.heap[xb]? = some (xB 1 ⟨#[]⟩ (.slice none 0 0))) := Lib.hid (by rw [← hW3, ← hxb]; exact heap_alloc_new w0 _)
            have HB3 : Hid (Below w0.heap.size w0 W3) := Lib.hid (by rw [← hW3]; exact (Below.refl _ _).alloc (Nat.le_refl _) _)
            have HXB := Lib.hid hxb
            rw [hxb, hW3]
            clear hW3 hxb
            go_cut [45] (fun v45 wx => v45 = .bool (decide (a < i ∧ (chars s).getD a 0 = 33)) ∧ wx = W3)
            case first =>
              by_cases hai2 : a < i
              · have hd : decide ((a : Int) < (i : Int)) = true := decide_eq_true (by omega)
                have hix := fun W => idx_at s a (by omega) (a : Int) rfl W
                have hc256 := chars_lt s a
                generalize (chars s).getD a 0 = c at *
                by_cases hc : c = 33
                · subst hc
                  go_wp2_with fail
                  go_meet
                  case rel => exact ⟨by simp [hai2], rfl⟩
                · have hne : ((c : Int) == 33) = false := by rw [beq_eq_false_iff_ne]; omega
                  go_wp2_with fail
                  go_meet
                  case rel => exact ⟨by rw [decide_eq_false (fun h => hc h.2)], rfl⟩
              · have hd : decide ((a : Int) < (i : Int)) = false := decide_eq_false (by omega)
                go_wp2_with fail
                go_meet
                case rel => exact ⟨by rw [decide_eq_false (fun h => hai2 h.1)], rfl⟩
            obtain ⟨rfl, hw⟩ := hcut
            subst hw
            go_upto_if 45 with fail
            go_cut [9] (fun v9 wx => ∃ q vd : Nat, v9 = .int .i64 ((a + q : Nat) : Int) ∧ q ≤ 1 ∧ a + q ≤ i ∧ vd ≤ 3 ∧ Hid (markF (chars (s.extract a i)) = (vd, q)) ∧ Hid (wx.heap[xb]? = some (xB vd ⟨#[]⟩ (.slice none 0 0))) ∧ Hid (Below w0.heap.size w0 wx))
            case first =>
              obtain ⟨x0, x1, x2, f0, f1, f2⟩ := xB_cells HX3.out
              have HSH : Hid (a < i → (chars (s.extract a i)).getD 0 256 = (chars s).getD a 0) := Lib.hid (fun h => sub_head h hile)
              have HSET : ∀ v : Nat, Hid ((wc.setCell ⟨xb, 0, none⟩ (.int .i64 v)).heap[xb]? = some (xB v ⟨#[]⟩ (.slice none 0 0))) ∧ Hid (Below w0.heap.size w0 (wc.setCell ⟨xb, 0, none⟩ (.int .i64 v))) := fun v => ⟨Lib.hid (xB_mark HX3.out), Lib.hid (HB3.out.setCell (p := ⟨xb, 0, none⟩) (by rw [HXB.out]; exact Nat.le_refl _) _)⟩
              have HSETH := Lib.hid HSET
              clear HSET
              by_cases hai2 : a < i
              · have hd : decide ((a : Int) < (i : Int)) = true := decide_eq_true (by omega)
                have hix := fun W => idx_at s a (by omega) (a : Int) rfl W
                have hc256 := chars_lt s a
                obtain ⟨c, hc⟩ : ∃ c, (chars s).getD a 0 = c := ⟨_, rfl⟩
                have HSH2 := Lib.hid (HSH.out hai2)
                rw [hc] at hix hc256 HSH2
                rw [hc]
                clear hc HSH
                by_cases hc : c = 33
                · have hdd : decide (a < i ∧ c = 33) = true := decide_eq_true ⟨hai2, hc⟩
                  have HMK : Hid (markF (chars (s.extract a i)) = (2, 1)) := Lib.hid (by rw [markF, HSH2.out, if_pos hc])
                  obtain ⟨y1, y2⟩ := HSETH.out 2
                  subst hc
                  rw [hdd]
                  clear hdd
                  go_wp2_with fail
                  go_meet
                  case rel => exact ⟨1, 2, by go_num, by omega, by omega, by omega, HMK, y1, y2⟩
                · have hdd : decide (a < i ∧ c = 33) = false := decide_eq_false (fun h => hc h.2)
                  rw [hdd]
                  clear hdd
                  by_cases hc2 : c = 64
                  · have HMK : Hid (markF (chars (s.extract a i)) = (3, 1)) := Lib.hid (by rw [markF, HSH2.out, if_neg hc, if_pos hc2])
                    obtain ⟨y1, y2⟩ := HSETH.out 3
                    subst hc2
                    go_wp2_with fail
                    go_meet
                    case rel => exact ⟨1, 3, by go_num, by omega, by omega, by omega, HMK, y1, y2⟩
                  · have HMK : Hid (markF (chars (s.extract a i)) = (1, 0)) := Lib.hid (by rw [markF, HSH2.out, if_neg hc, if_neg hc2])
                    have hne : ((c : Int) == 64) = false := by rw [beq_eq_false_iff_ne]; omega
                    go_wp2_with fail
                    go_meet
                    case rel => exact ⟨0, 1, rfl, by omega, by omega, by omega, HMK, HX3, HB3⟩
              · obtain rfl : a = i := by omega
                have hd : decide ((a : Int) < (a : Int)) = false := decide_eq_false (by omega)
                have hdd : decide (a < a ∧ (chars s).getD a 0 = 33) = false := decide_eq_false (fun h => hai2 h.1)
                have HMK : Hid (markF (chars (s.extract a a)) = (1, 0)) := Lib.hid (by rw [markF, sub_none]; rfl)
                rw [hdd]
                clear hdd
                go_wp2_with fail
                go_meet
                case rel => exact ⟨0, 1, rfl, by omega, by omega, by omega, HMK, HX3, HB3⟩
            obtain ⟨q, vd, rfl, hq1, haq, hvd, HMK, HX1, HB1⟩ := hcut
            generalize wc = w1 at *
            have HRC0 := RCompile_at (s.extract (a + q) i) w1 (by rw [ByteArray.size_extract]; omega)
            rw [sub_chars] at HRC0
            obtain ⟨R, hR⟩ : ∃ R, compF ((chars (s.extract a i)).drop q) = R := ⟨_, rfl⟩
            rw [hR] at HRC0
            have HRC := Lib.hid HRC0
            have HRR := Lib.hid hR
            obtain ⟨at1, hat1⟩ : ∃ at1, a + q = at1 := ⟨_, rfl⟩
            rw [hat1] at HRC haq ⊢
            have HAT1 := Lib.hid hat1
            clear HRC0 hR hat1
            go_wp2_with fail
            refine HRC.out.mono ?_
            rintro e w2 ⟨⟨txt, A2, cap2, rfl, hrf, hA2⟩, b2⟩
            have hsz := HLN.out
            have hx1 : xb < w1.heap.size := lt_of_block HX1.out
            have HB2 : Hid (Below w0.heap.size w0 (w2.alloc (.cells #[.string txt, .slice A2 R.1.length cap2] 29))) := Lib.hid ((HB1.out.trans (b2.mono HB1.out.size)).alloc (Nat.le_trans HB1.out.size b2.size) _)
            have HX2 : Hid ((w2.alloc (.cells #[.string txt, .slice A2 R.1.length cap2] 29)).heap[xb]? = some (xB vd ⟨#[]⟩ (.slice none 0 0))) := Lib.hid (by rw [Below.heap_alloc _ _ _ (Nat.lt_of_lt_of_le hx1 b2.size), b2.block _ hx1]; exact HX1.out)
            have hyb := heap_alloc_new w2 (.cells #[.string txt, .slice A2 R.1.length cap2] 29)
            have y0 : (w2.alloc (.cells #[.string txt, .slice A2 R.1.length cap2] 29)).cell? ⟨w2.heap.size, 0, none⟩ = some (.string txt) := by simp only [World.cell?, hyb]; rfl
            have y1 : (w2.alloc (.cells #[.string txt, .slice A2 R.1.length cap2] 29)).cell? ⟨w2.heap.size, 1, none⟩ = some (.slice A2 R.1.length cap2) := by simp only [World.cell?, hyb]; rfl
            have HRF2 : Hid (IsRef (w2.alloc (.cells #[.string txt, .slice A2 R.1.length cap2] 29)) (w2.alloc (.cells #[.string txt, .slice A2 R.1.length cap2] 29)).heap.size A2 R.1) := Lib.hid (hrf.later ((Below.refl _ _).alloc (Nat.le_refl _) _))
            have HA2 : Hid (∀ a, A2 = some a → w0.heap.size < a.block ∧ a.block < (w2.alloc (.cells #[.string txt, .slice A2 R.1.length cap2] 29)).heap.size ∧ a.block ≠ xb) := Lib.hid (fun a ha => by
              obtain ⟨h1, h2⟩ := hA2 a ha
              have := HXB.out
              refine ⟨by omega, by simp; omega, by omega⟩)
            clear hrf hA2 b2 hyb HRC
            by_cases he : R.2.2 = 0
            · have hne : ((R.2.2 : Int) != 0) = false := by rw [he]; rfl
              have HGO : Hid (parseF s = listGo (remL s (i + 1)) ((its ++ [(⟨vd, txt, A2, cap2, R.1⟩ : RIt)]).map RIt.it) (i + 1)) := Lib.hid (by
                rw [HE.out, HST.out, listGo, if_neg hful.out]
                simp only [HMK.out, HRR.out, if_pos he]
                rw [List.map_append, ByteArray.size_extract, show a + (min i s.size - a + 1) = i + 1 by omega]
                rfl)
              have HRL : Hid (R.1.length ≤ 80) := Lib.hid (by rw [← HRR.out]; exact compF_len _)
              have HRO : Hid (∀ e ∈ R.1, e.ok) := Lib.hid (by rw [← HRR.out]; exact compF_ok _)
              obtain ⟨_, x1, x2, f0, f1, f2⟩ := xB_cells HX2.out
              obtain ⟨W4, hW4⟩ : ∃ W4, w2.alloc (.cells #[.string txt, .slice A2 R.1.length cap2] 29) = W4 := ⟨_, rfl⟩
              have HX5 : Hid (((W4.setCell ⟨xb, 1, none⟩ (.string txt)).setCell ⟨xb, 2, none⟩ (.slice A2 R.1.length cap2)).heap[xb]? = some (xB vd txt (.slice A2 R.1.length cap2))) := Lib.hid (by rw [← hW4]; exact xB_pat (xB_text HX2.out))
              have HB5 : Hid (Below w0.heap.size w0 ((W4.setCell ⟨xb, 1, none⟩ (.string txt)).setCell ⟨xb, 2, none⟩ (.slice A2 R.1.length cap2))) := Lib.hid (by rw [← hW4]; exact (HB2.out.setCell (p := ⟨xb, 1, none⟩) (Nat.le_of_eq HXB.out) _).setCell (p := ⟨xb, 2, none⟩) (Nat.le_of_eq HXB.out) _)
              clear he
              rw [hW4] at y0 y1 x1 x2 f0 f1 f2 HRF2 HA2
              have hnx : ∀ a, A2 = some a → some a.block ≠ some xb := fun a ha e => (HA2.out a ha).2.2 (Option.some.inj e)
              have HRF5 : Hid (IsRef ((W4.setCell ⟨xb, 1, none⟩ (.string txt)).setCell ⟨xb, 2, none⟩ (.slice A2 R.1.length cap2)) ((W4.setCell ⟨xb, 1, none⟩ (.string txt)).setCell ⟨xb, 2, none⟩ (.slice A2 R.1.length cap2)).heap.size A2 R.1) := Lib.hid (((HRF2.out.kept_ne (grown_setCell W4 xb 1 (.string txt)) hnx).kept_ne (grown_setCell _ xb 2 (.slice A2 R.1.length cap2)) hnx).up (by simp))
              have HA5 : Hid (∀ a, A2 = some a → w0.heap.size < a.block ∧ a.block < ((W4.setCell ⟨xb, 1, none⟩ (.string txt)).setCell ⟨xb, 2, none⟩ (.slice A2 R.1.length cap2)).heap.size) := Lib.hid (fun a ha => ⟨(HA2.out a ha).1, by simp; exact (HA2.out a ha).2.1⟩)
              clear hnx HA2 HRF2 HB2 HX2
              go_upto_region 23 with fail
              obtain ⟨W5, hW5⟩ : ∃ W5, (W4.setCell ⟨xb, 1, none⟩ (.string txt)).setCell ⟨xb, 2, none⟩ (.slice A2 R.1.length cap2) = W5 := ⟨_, rfl⟩
              rw [hW5] at HRF5 HA5 HX5 HB5 ⊢
              clear hW5 hW4 y0 y1 x1 x2 f0 f1 f2
              obtain ⟨x0, x1, x2, _, _, _⟩ := xB_cells HX5.out
              have HB6 : Hid (Below w0.heap.size w0 (W5.alloc (.cells #[.int .i64 (vd : Nat), .string txt, .slice A2 R.1.length cap2] 101))) := Lib.hid (HB5.out.alloc HB5.out.size _)
              have OW : Hid ((W5.alloc (.cells #[.int .i64 (vd : Nat), .string txt, .slice A2 R.1.length cap2] 101)).ownsRow w.heap.size 101 3 (.slice A its.length cap) its.length (its.flatMap RIt.vals)) := Lib.hid (HO.out.kept (grown_of_below HB6.out none) (by cases (Value.slice A its.length cap).ownBlock <;> simp))
              have I6 : Hid (RIs (W5.alloc (.cells #[.int .i64 (vd : Nat), .string txt, .slice A2 R.1.length cap2] 101)) (Value.slice A its.length cap).ownBlock (its ++ [(⟨vd, txt, A2, cap2, R.1⟩ : RIt)])) := Lib.hid ((HI.out.kept_none (grown_of_below HB6.out none)).more hvd (HRF5.out.later ((Below.refl _ _).alloc (Nat.le_refl _) _)) HRL.out HRO.out (fun a ha => by
                obtain ⟨h1, h2⟩ := HA5.out a ha
                refine ⟨by simp; omega, fun e => ?_⟩
                have := (HO.out.lt _ e.symm).2
                omega))
              have B6 : Hid (Below w.heap.size w (W5.alloc (.cells #[.int .i64 (vd : Nat), .string txt, .slice A2 R.1.length cap2] 101))) := Lib.hid (HB.out.trans (HB6.out.mono HB.out.size))
              go_wp2_with (at_builtin; refine wpList_append_own_at _ rfl _ _ 44 rfl w.heap.size 101 i0 (.agg #[.int .i64 0, .string ⟨#[]⟩, .slice none 0 0]) 3 48 Tryd.underlying44 Hi.out Z0.out Z1.out Z2.out rfl (by decide) _ its.length (its.flatMap RIt.vals) rfl OW.out ⟨W5.heap.size, 0, none⟩ 1 1 [.int .i64 (vd : Nat), .string txt, .slice A2 R.1.length cap2] rfl rfl ?c1a ?c2a ?c3a ?c4a ?c5a ?_)
              case c1a => exact cell_three_new _ _ _ _ _
              case c2a => intro u hu; simp at hu; rcases hu with rfl | rfl | rfl <;> rfl
              case c3a => unfold maxLen; omega
              case c4a => omega
              case c5a => exact B6.out.size
              intro v1 w3 hown1 hg1 _ hat1
              obtain ⟨g, cap3, rfl, Y1, Y2, Y3⟩ := rit_all OW.out B6.out I6.out hg1 hown1 (by simpa using hat1)
              clear hown1 hg1 hat1
              go_wp2_with fail
              go_roundw
              case measure => simp [intOf]; omega
              case rel => exact ⟨i + 1, i + 1, its ++ [(⟨vd, txt, A2, cap2, R.1⟩ : RIt)], some ⟨g, 0, none⟩, cap3, by omega, by omega, by rw [List.length_append]; rfl, by go_num, by go_num, Lib.hid id, Lib.hid (fun j h1 h2 => by omega), HGO, Lib.hid (by rw [List.flatMap_append, List.length_append]; exact Y1.out), Lib.hid (by rw [List.length_append]; exact Y2.out), Y3, Lib.hid (by have h := hful.out; rw [List.length_map] at h; rw [List.length_append]; simp; omega)⟩
            · have hne : ((R.2.2 : Int) != 0) = true := by rw [bne_iff_ne]; omega
              have HF : Hid (parseF s = ([], at1 + R.2.1, R.2.2)) := Lib.hid (by
                rw [HE.out, HST.out, listGo, if_neg hful.out]
                simp only [HMK.out, HRR.out, if_neg he, HAT1.out])
              have hle : R.2.1 ≤ 2000 := by
                have h := comp_at_le ((chars (s.extract a i)).drop q)
                rw [HRR.out, List.length_drop, chars_length, ByteArray.size_extract] at h
                omega
              clear he
              go_wp2_with fail
              go_ret3
              exact rlist_none2 HF.out (by omega) (HB.out.trans (HB2.out.mono HB.out.size))
      · obtain rfl : i = s.size + 1 := by omega
        obtain rfl := HEND.out rfl
        have hid : decide ((((s.size + 1 : Nat)) : Int) ≤ (s.size : Int)) = false := decide_eq_false (by omega)
        have HF : Hid (parseF s = (its.map RIt.it, 0, 0)) := Lib.hid (by rw [HE.out, rem_end]; rfl)
        go_wp2_with fail
        go_ret3
        refine ⟨⟨A, cap, its, by rw [HF.out]; rfl, by rw [HF.out], rits_done HO.out HI.out HLN.out⟩, HB.out⟩

end Go.Proofs.YtgnmanmlnbidfaaDoor
