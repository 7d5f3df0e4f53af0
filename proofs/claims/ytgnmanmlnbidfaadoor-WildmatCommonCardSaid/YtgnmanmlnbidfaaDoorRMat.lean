/- Wildmat: the reference's Match, by a walk through its text. -/
import Derived.Test.YtgnmanmlnbidfaaDoorREmp
namespace Go.Proofs.YtgnmanmlnbidfaaDoor
open Go.RowKit

/-- A row of which the first m are reckoned. -/
def rowM (f : Nat → Bool) (n m : Nat) : List Bool := (List.range n).map fun i => decide (i < m) && f i

theorem rowM_len (f : Nat → Bool) (n m : Nat) : (rowM f n m).length = n := by simp [rowM]
theorem rowM_at (f : Nat → Bool) {n m i : Nat} (hi : i < n) : (rowM f n m).getD i false = (decide (i < m) && f i) := by
  rw [rowM, List.getD_eq_getElem?_getD, List.getElem?_map, List.getElem?_range hi]; rfl
theorem rowM_zero (f : Nat → Bool) (n : Nat) : rowM f n 0 = List.replicate n false := by
  rw [List.eq_replicate_iff]
  refine ⟨rowM_len _ _ _, fun x hx => ?_⟩
  obtain ⟨i, _, rfl⟩ := List.mem_map.1 hx
  simp
theorem rowM_set (f : Nat → Bool) {n m : Nat} (_ : m < n) : (rowM f n m).set m (f m) = rowM f n (m + 1) := by
  apply List.ext_getElem
  · simp [rowM]
  · intro i h1 h2
    rw [List.getElem_set]
    simp only [rowM, List.getElem_map, List.getElem_range]
    split
    · rename_i h; subst h; simp
    · rename_i h
      have e : decide (i < m) = decide (i < m + 1) := by
        rw [Bool.eq_iff_iff, decide_eq_true_eq, decide_eq_true_eq]; omega
      rw [e]

theorem rowM_first (L : List El) (l : List Nat) (n : Nat) : (List.replicate (n + 1) false).set 0 true = rowM (MT L l 0) (n + 1) (n + 1) := by
  apply List.ext_getElem
  · simp [rowM]
  · intro i h1 h2
    rw [List.getElem_set]
    simp only [rowM, List.getElem_map, List.getElem_range, List.getElem_replicate]
    have hi : i < n + 1 := by simpa [rowM] using h2
    split
    · rename_i h; subst h; simp [MT]
    · rename_i h
      have : ¬ i = 0 := fun e => h e.symm
      simp [MT, this]

theorem rowM_skip (f : Nat → Bool) {n m : Nat} (h : f m = false) : rowM f n (m + 1) = rowM f n m := by
  apply List.ext_getElem
  · simp [rowM]
  · intro i h1 h2
    simp only [rowM, List.getElem_map, List.getElem_range]
    by_cases hi : i = m
    · subst hi; rw [h]; simp
    · have e : decide (i < m + 1) = decide (i < m) := by
        rw [Bool.eq_iff_iff, decide_eq_true_eq, decide_eq_true_eq]; omega
      rw [e]

theorem bit_has {e : El} (h : e.isStar = false) (c : Nat) : e.bit c = e.has c := by cases e <;> first | rfl | cases h

theorem matchF_named {L : List El} (hL : ∀ e ∈ L, e.ok) {l : List Nat} {c : Nat} (hc : c ∈ l) (h : namedB c = false) : matchF L l = false := by
  cases hm : matchF L l with
  | false => rfl
  | true =>
    have := Mt_named hL ((matchF_iff _ _).1 hm) c hc
    rw [h] at this; cases this

set_option maxRecDepth 100000 in
set_option maxHeartbeats 8000000 in
theorem RMatch_any (txt s : ByteArray) (A : Option Addr) (L : List El) (cap : Nat) (w : World) (h : IsRef w w.heap.size A L) (hl : L.length ≤ 80) (hok : ∀ e ∈ L, e.ok) (hs : s.size ≤ 100) :
    Calls Tryd.prog 16 #[.agg #[.string txt, .slice A L.length cap], .string s] w fun e w' => e = .returned (.bool (matchF L (chars s))) ∧ Below w.heap.size w w' := by
  obtain ⟨W, hW⟩ : ∃ W, w.alloc (.cells #[.string txt, .slice A L.length cap] 29) = W := ⟨_, rfl⟩
  have HB : Hid (Below w.heap.size w W) := Lib.hid (by rw [← hW]; exact (Below.refl _ _).alloc (Nat.le_refl _) _)
  have hWs : Hid (W.heap.size = w.heap.size + 1) := Lib.hid (by rw [← hW]; simp)
  have hx : W.cell? ⟨w.heap.size, 1, none⟩ = some (.slice A L.length cap) := by
    have h := heap_alloc_new w (.cells #[.string txt, .slice A L.length cap] 29)
    rw [hW] at h
    simp only [World.cell?, h]; rfl
  have HX := Lib.hid hx
  have HR := Lib.hid (h.below HB.out)
  have HO := Lib.hid hok
  have hmk := make_bools (s.size + 1) (by omega)
  have ec : ((s.size + 1 : Nat) : Int) = (s.size : Int) + 1 := by omega
  rw [ec] at hmk
  have HMK := Lib.hid hmk
  clear h hok hx hmk ec
  go_enter Tryd.func16, Tryd.ntmps16
  go_wp2_with fail
  go_loopw [5] (fun vk wr => ∃ k : Nat, k ≤ s.size ∧ vk = .int .i64 k ∧ Hid (∀ j, j < k → namedB ((chars s).getD j 0) = true) ∧ W = wr) (fun vk _ => (s.size - intOf vk).toNat)
  case atStart => exact ⟨0, by omega, rfl, Lib.hid (fun j hj => by omega), rfl⟩
  case round =>
    obtain ⟨k, hk, rfl, HN, rfl⟩ := hrel
    by_cases hlt : k < s.size
    · have hidx := fun W => idx_at s k hlt (k : Int) rfl W
      have hkl : (k : Int) < (s.size : Int) := by omega
      have hc256 : (chars s).getD k 0 < 256 := chars_lt s k
      obtain ⟨c, hc⟩ : ∃ c, (chars s).getD k 0 = c := ⟨_, rfl⟩
      have HC := Lib.hid hc
      rw [hc] at hidx hc256
      clear hc
      cases hq : namedB c with
      | true =>
        have hN2 : Hid (∀ j, j < k + 1 → namedB ((chars s).getD j 0) = true) := Lib.hid (fun j hj => by
          rcases Nat.lt_succ_iff_lt_or_eq.1 hj with h1 | rfl
          · exact HN.out j h1
          · rw [HC.out]; exact hq)
        have HQ := Lib.hid hq
        clear hq
        go_wp2_with fail
        refine (Char_any c _).mono ?_
        rintro e w2 ⟨rfl, rfl⟩
        rw [HQ.out]
        go_wp2_with fail
        go_roundw
        case measure => simp [intOf]; omega
        case rel => exact ⟨k + 1, by omega, by go_num, hN2, trivial⟩
      | false =>
        have HF : Hid (matchF L (chars s) = false) := Lib.hid (matchF_named HO.out (c := c) (by
          rw [← HC.out, List.getD_eq_getElem?_getD, List.getElem?_eq_getElem (by rw [chars_length]; exact hlt)]
          exact List.getElem_mem _) hq)
        have HQ := Lib.hid hq
        clear hq
        go_wp2_with fail
        refine (Char_any c _).mono ?_
        rintro e w2 ⟨rfl, rfl⟩
        rw [HQ.out]
        go_wp2_with fail
        go_ret
        exact ⟨by rw [HF.out]; rfl, HB.out⟩
    · obtain rfl : k = s.size := by omega
      clear hlt hk
      have hmk := HMK.out W
      obtain ⟨W1, hW1⟩ : ∃ W1, W.alloc (.cells (madeCells #[.bool false] (s.size + 1)) 4) = W1 := ⟨_, rfl⟩
      obtain ⟨nb, hnb⟩ : ∃ nb, W.heap.size = nb := ⟨_, rfl⟩
      have HB1 : Hid (Below W.heap.size W W1) := Lib.hid (by rw [← hW1]; exact (Below.refl _ _).alloc (Nat.le_refl _) _)
      have HS0 : Hid (W1.heap[W.heap.size]? = some (bools (List.replicate (s.size + 1) false))) := Lib.hid (by rw [← hW1]; exact made_bools W _)
      rw [hnb] at HS0 HB1
      rw [hnb, hW1] at hmk
      have cz := bools_cell HS0.out (i := 0) (by simp)
      have fz := bools_free HS0.out 0
      have HS1 : Hid ((W1.setCell ⟨nb, 0, none⟩ (.bool true)).heap[nb]? = some (bools (rowM (MT L (chars s) 0) (s.size + 1) (s.size + 1)))) := Lib.hid (by rw [← rowM_first]; exact bools_set HS0.out 0 true)
      have HB2 : Hid (Below nb W (W1.setCell ⟨nb, 0, none⟩ (.bool true))) := Lib.hid (HB1.out.setCell (p := ⟨nb, 0, none⟩) (Nat.le_refl _) _)
      clear hW1
      go_wp2_with fail
      clear cz fz hmk
      generalize W1.setCell ⟨nb, 0, none⟩ (.bool true) = W2 at *
      clear HS0 HB1
      have hwn : w.heap.size < nb := by rw [← hnb, hWs.out]; omega
      have hall : Hid (∀ j, j < s.size → namedB ((chars s).getD j 0) = true) := HN
      have HRn : Hid (∀ W', Below nb W W' → IsRef W' nb A L) := Lib.hid (fun W' hB => (HR.out.up (B' := nb) (by omega)).below hB)
      clear HN
      go_loopw [6, 7] (fun vr vj wr => ∃ (j rb : Nat), j ≤ L.length ∧ vr = .slice (some ⟨rb, 0, none⟩) (s.size + 1) (s.size + 1) ∧ vj = .int .i64 j ∧ Hid (nb ≤ rb) ∧ Hid (wr.heap[rb]? = some (bools (rowM (MT L (chars s) j) (s.size + 1) (s.size + 1)))) ∧ Hid (Below nb W wr)) (fun _ vj _ => (L.length - intOf vj).toNat)
      case atStart => exact ⟨0, nb, by omega, rfl, rfl, Lib.hid (Nat.le_refl _), HS1, HB2⟩
      case round =>
        obtain ⟨j, rb, hj, rfl, rfl, HRB, HRW, HBW⟩ := hrel
        have x1 := (HBW.out.cell (p := ⟨w.heap.size, 1, none⟩) hwn).trans HX.out
        by_cases hjl : j < L.length
        · have hjli : (j : Int) < (L.length : Int) := by omega
          have hmk := HMK.out wr
          obtain ⟨W3, hW3⟩ : ∃ W3, wr.alloc (.cells (madeCells #[.bool false] (s.size + 1)) 4) = W3 := ⟨_, rfl⟩
          obtain ⟨xb, hxb⟩ : ∃ xb, wr.heap.size = xb := ⟨_, rfl⟩
          have HX3 : Hid (W3.heap[xb]? = some (bools (rowM (MT L (chars s) (j + 1)) (s.size + 1) 0))) := Lib.hid (by rw [← hW3, ← hxb, rowM_zero]; exact made_bools wr _)
          have HR3 : Hid (W3.heap[rb]? = some (bools (rowM (MT L (chars s) j) (s.size + 1) (s.size + 1)))) := Lib.hid (by rw [← hW3, Below.heap_alloc _ _ _ (lt_of_block HRW.out)]; exact HRW.out)
          have hnw : nb ≤ wr.heap.size := by rw [← hnb]; exact HBW.out.size
          have HB3 : Hid (Below nb W W3) := Lib.hid (by rw [← hW3]; exact HBW.out.alloc hnw _)
          have hrx : rb < xb := by rw [← hxb]; exact lt_of_block HRW.out
          rw [hxb] at hnw
          rw [hxb, hW3] at hmk
          clear hW3 hxb
          go_wp2_with fail
          clear hmk x1
          go_loopw [9] (fun vi wq => ∃ i : Nat, i ≤ s.size + 1 ∧ vi = .int .i64 i ∧ Hid (wq.heap[xb]? = some (bools (rowM (MT L (chars s) (j + 1)) (s.size + 1) i))) ∧ Hid (wq.heap[rb]? = some (bools (rowM (MT L (chars s) j) (s.size + 1) (s.size + 1)))) ∧ Hid (Below nb W wq)) (fun vi _ => (s.size + 1 - intOf vi).toNat)
          case atStart => exact ⟨0, by omega, rfl, HX3, HR3, HB3⟩
          case round =>
            obtain ⟨i, hi, rfl, HXI, HRI, HBI⟩ := hrel
            by_cases hil : i ≤ s.size
            · have hii : (i : Int) ≤ (s.size : Int) := by omega
              have hi1 : (i : Int) < (s.size : Int) + 1 := by omega
              have hid : decide ((i : Int) ≤ (s.size : Int)) = true := decide_eq_true hii
              have x1 := (HBI.out.cell (p := ⟨w.heap.size, 1, none⟩) hwn).trans HX.out
              obtain ⟨b, off, hA, hb, c0, cb⟩ := (HRn.out _ HBI.out).at hjl
              subst hA
              have HCB := Lib.hid cb
              have cr := bools_cell HRI.out (i := i) (by rw [rowM_len]; omega)
              rw [rowM_at _ (by omega)] at cr
              have cri : (decide (i < s.size + 1) && MT L (chars s) j i) = MT L (chars s) j i := by rw [decide_eq_true (by omega)]; rfl
              rw [cri] at cr
              have cw := bools_cell HXI.out (i := i) (by rw [rowM_len]; omega)
              have fw := bools_free HXI.out i
              rw [rowM_at _ (by omega)] at cw
              clear cb cri
              have HST : ∀ v, v = MT L (chars s) (j + 1) i → Hid ((wr.setCell ⟨xb, i, none⟩ (.bool v)).heap[xb]? = some (bools (rowM (MT L (chars s) (j + 1)) (s.size + 1) (i + 1)))) ∧ Hid ((wr.setCell ⟨xb, i, none⟩ (.bool v)).heap[rb]? = some (bools (rowM (MT L (chars s) j) (s.size + 1) (s.size + 1)))) ∧ Hid (Below nb W (wr.setCell ⟨xb, i, none⟩ (.bool v))) := fun v hv => ⟨Lib.hid (by rw [hv, ← rowM_set _ (by omega)]; exact bools_set HXI.out i _), Lib.hid (by rw [Below.heap_setCell _ _ _ _ (show rb ≠ xb by omega)]; exact HRI.out), Lib.hid (HBI.out.setCell (p := ⟨xb, i, none⟩) hnw _)⟩
              have HSTH := Lib.hid HST
              clear HST
              cases hst : (elAt L j).isStar with
              | true =>
                rw [hst] at c0
                cases i with
                | zero =>
                  have hv : MT L (chars s) (j + 1) 0 = MT L (chars s) j 0 := by rw [MT, hst]; rfl
                  obtain ⟨q, hq⟩ : ∃ q, MT L (chars s) j 0 = q := ⟨_, rfl⟩
                  rw [hq] at cr hv
                  have X := HSTH.out q hv.symm
                  obtain ⟨X1, X2, X3⟩ := X
                  clear hv hq hst
                  cases q with
                  | true =>
                    go_wp2_with fail
                    go_roundw
                    case measure => simp [intOf]
                    case rel => exact ⟨1, by omega, rfl, X1, X2, X3⟩
                  | false =>
                    go_wp2_with fail
                    go_roundw
                    case measure => simp [intOf]
                    case rel => exact ⟨1, by omega, rfl, X1, X2, X3⟩
                | succ i =>
                  have hnm := hall.out i (by omega)
                  have hv : MT L (chars s) (j + 1) (i + 1) = (MT L (chars s) j (i + 1) || MT L (chars s) (j + 1) i) := by rw [MT, if_pos hst, hnm, Bool.and_true]
                  have cx := bools_cell HXI.out (i := i) (by rw [rowM_len]; omega)
                  rw [rowM_at _ (by omega), decide_eq_true (by omega : i < i + 1), Bool.true_and] at cx
                  have hi2 : (i : Int) < (s.size : Int) + 1 := by omega
                  have hi3 : (i : Int) + 1 < (s.size : Int) + 1 := by omega
                  have hi4 : (i : Int) + 1 ≤ (s.size : Int) := by omega
                  have ei : ((i + 1 : Nat) : Int) = (i : Int) + 1 := by omega
                  rw [ei] at hii hi1 hid
                  rw [ei]
                  obtain ⟨q, hq⟩ : ∃ q, MT L (chars s) j (i + 1) = q := ⟨_, rfl⟩
                  obtain ⟨q2, hq2⟩ : ∃ q2, MT L (chars s) (j + 1) i = q2 := ⟨_, rfl⟩
                  rw [hq] at cr hv
                  rw [hq2] at cx hv
                  have X := HSTH.out (q || q2) hv.symm
                  obtain ⟨X1, X2, X3⟩ := X
                  clear hv hq hq2 hst hnm ei
                  cases q with
                  | true =>
                    go_wp2_with fail
                    go_roundw
                    case measure => simp [intOf]; omega
                    case rel => exact ⟨i + 1 + 1, by omega, by go_num, X1, X2, X3⟩
                  | false =>
                    go_wp2_with fail
                    go_roundw
                    case measure => simp [intOf]; omega
                    case rel => exact ⟨i + 1 + 1, by omega, by go_num, X1, X2, X3⟩
              | false =>
                rw [hst] at c0
                cases i with
                | zero =>
                  have HS0 : Hid (wr.heap[xb]? = some (bools (rowM (MT L (chars s) (j + 1)) (s.size + 1) (0 + 1)))) := Lib.hid (by rw [rowM_skip _ (by rw [MT, hst]; rfl)]; exact HXI.out)
                  clear hst
                  go_wp2_with fail
                  go_roundw
                  case measure => simp [intOf]
                  case rel => exact ⟨1, by omega, rfl, HS0, HRI, HBI⟩
                | succ i =>
                  have hnm := named_lt (hall.out i (by omega))
                  have hbit := HCB.out _ hnm
                  rw [bit_has hst] at hbit
                  have hv : MT L (chars s) (j + 1) (i + 1) = (MT L (chars s) j i && (elAt L j).has ((chars s).getD i 0)) := by rw [MT, if_neg (by rw [hst]; simp)]
                  have cx := bools_cell HRI.out (i := i) (by rw [rowM_len]; omega)
                  rw [rowM_at _ (by omega), decide_eq_true (by omega : i < s.size + 1), Bool.true_and] at cx
                  have hidx := fun W => idx_at s i (by omega) (i : Int) rfl W
                  have hi2 : (i : Int) < (s.size : Int) + 1 := by omega
                  have hi3 : (i : Int) + 1 < (s.size : Int) + 1 := by omega
                  have hi4 : (i : Int) + 1 ≤ (s.size : Int) := by omega
                  have hi5 : (i : Int) < (s.size : Int) := by omega
                  have ei : ((i + 1 : Nat) : Int) = (i : Int) + 1 := by omega
                  rw [ei] at hii hi1 hid
                  rw [ei]
                  obtain ⟨c, hc⟩ : ∃ c, (chars s).getD i 0 = c := ⟨_, rfl⟩
                  rw [hc] at hbit hv hidx hnm
                  have hc1 : (c : Int) < 128 := by omega
                  obtain ⟨q, hq⟩ : ∃ q, MT L (chars s) j i = q := ⟨_, rfl⟩
                  obtain ⟨q2, hq2⟩ : ∃ q2, (elAt L j).has c = q2 := ⟨_, rfl⟩
                  rw [hq] at cx hv
                  rw [hq2] at hbit hv
                  have X := HSTH.out (q && q2) hv.symm
                  obtain ⟨X1, X2, X3⟩ := X
                  clear hv hq hq2 hst ei hc cr
                  cases q with
                  | true =>
                    go_wp2_with fail
                    go_region
                    go_wp2_with fail
                    go_roundw
                    case measure => simp [intOf]; omega
                    case rel => exact ⟨i + 1 + 1, by omega, by go_num, Lib.hid X1.out, Lib.hid X2.out, Lib.hid X3.out.drew⟩
                  | false =>
                    go_wp2_with fail
                    go_region
                    go_wp2_with fail
                    go_roundw
                    case measure => simp [intOf]; omega
                    case rel => exact ⟨i + 1 + 1, by omega, by go_num, Lib.hid X1.out, Lib.hid X2.out, Lib.hid X3.out.drew⟩
            · obtain rfl : i = s.size + 1 := by omega
              have hid : decide ((((s.size + 1 : Nat)) : Int) ≤ (s.size : Int)) = false := decide_eq_false (by omega)
              clear hil hi
              go_wp2_with fail
              go_roundw
              case measure => simp [intOf]; omega
              case rel => exact ⟨j + 1, xb, by omega, rfl, by go_num, Lib.hid hnw, HXI, HBI⟩
        · obtain rfl : j = L.length := by omega
          have cz := bools_cell HRW.out (i := s.size) (by rw [rowM_len]; omega)
          rw [rowM_at _ (by omega), decide_eq_true (by omega : s.size < s.size + 1), Bool.true_and] at cz
          have HF : Hid (MT L (chars s) L.length s.size = matchF L (chars s)) := Lib.hid (by rw [matchF, chars_length])
          have hsi : (s.size : Int) < (s.size : Int) + 1 := by omega
          rw [HF.out] at cz
          clear hjl hj
          go_wp2_with fail
          go_ret
          exact ⟨rfl, HB.out.trans (HBW.out.mono (by omega))⟩

end Go.Proofs.YtgnmanmlnbidfaaDoor
