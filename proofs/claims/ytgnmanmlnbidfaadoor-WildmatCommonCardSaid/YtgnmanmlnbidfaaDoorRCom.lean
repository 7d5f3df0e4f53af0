/- Wildmat: the reference's Common, by a walk through its text. -/
import Derived.Test.YtgnmanmlnbidfaaDoorRRow
import Derived.Deep.RegionWith
namespace Go.Proofs.YtgnmanmlnbidfaaDoor
open Go.RowKit

set_option maxRecDepth 100000 in
set_option maxHeartbeats 16000000 in
theorem RCommon_any (tp tq : ByteArray) (AP AQ : Option Addr) (P Q : List El) (cp cq : Nat) (w : World) (hP : IsRef w w.heap.size AP P) (hQ : IsRef w w.heap.size AQ Q) (lP : P.length ≤ 80) (lQ : Q.length ≤ 80) (okP : ∀ e ∈ P, e.ok) (okQ : ∀ e ∈ Q, e.ok) :
    Calls Tryd.prog 20 #[.agg #[.string tp, .slice AP P.length cp], .agg #[.string tq, .slice AQ Q.length cq]] w fun e w' => e = .returned (.tuple #[.string (ansS (bestF P Q)), .bool (bestF P Q).isSome]) ∧ Below w.heap.size w w' := by
  have HPP := Lib.hid hP
  have HQQ := Lib.hid hQ
  have HOP := Lib.hid okP
  have HOQ := Lib.hid okQ
  obtain ⟨W, hW⟩ : ∃ W, (w.alloc (.cells #[.string tp, .slice AP P.length cp] 29)).alloc (.cells #[.string tq, .slice AQ Q.length cq] 29) = W := ⟨_, rfl⟩
  have HB0 : Hid (Below w.heap.size w W) := Lib.hid (by rw [← hW]; exact ((Below.refl _ _).alloc (Nat.le_refl _) _).alloc (by simp) _)
  have hWs : Hid (W.heap.size = w.heap.size + 2) := Lib.hid (by rw [← hW]; simp)
  have hx1 : W.heap[w.heap.size]? = some (.cells #[.string tp, .slice AP P.length cp] 29 (0, 0)) := by rw [← hW]; exact heap_alloc2_old _ _ _
  have hx2 : W.heap[w.heap.size + 1]? = some (.cells #[.string tq, .slice AQ Q.length cq] 29 (0, 0)) := by rw [← hW]; exact heap_alloc2_new _ _ _
  have p1 : W.cell? ⟨w.heap.size, 1, none⟩ = some (.slice AP P.length cp) := by simp only [World.cell?, hx1]; rfl
  have q1 : W.cell? ⟨w.heap.size + 1, 1, none⟩ = some (.slice AQ Q.length cq) := by simp only [World.cell?, hx2]; rfl
  have HP1 := Lib.hid p1
  have HQ1 := Lib.hid q1
  have HW := Lib.hid hW
  clear hP hQ okP okQ hx1 hx2 hW p1 q1
  have hmk1 := make_rows (P.length + 1) (by omega)
  have hmk2 := make_rows2 (P.length + 1) (by omega)
  have ec : ((P.length + 1 : Nat) : Int) = (P.length : Int) + 1 := by omega
  rw [ec] at hmk1 hmk2
  have HMK1 := Lib.hid hmk1
  have HMK2 := Lib.hid hmk2
  have hmk3 := make_strs (Q.length + 1) (by omega)
  have hmk4 := make_bools (Q.length + 1) (by omega)
  have ec : ((Q.length + 1 : Nat) : Int) = (Q.length : Int) + 1 := by omega
  rw [ec] at hmk3 hmk4
  have HMK3 := Lib.hid hmk3
  have HMK4 := Lib.hid hmk4
  clear hmk1 hmk2 hmk3 hmk4 ec
  go_enter Tryd.func20, Tryd.ntmps20
  go_upto_region 1 with fail
  rw [HW.out]
  have p1 := HP1.out
  have q1 := HQ1.out
  go_quiet (fail)
  clear p1 q1
  go_upto_region 2 with fail
  have HB1 : Hid (Below w.heap.size w (W.drewN nq)) := Lib.hid (below_drewN HB0.out _)
  have HP2 : Hid ((W.drewN nq).cell? ⟨w.heap.size, 1, none⟩ = some (.slice AP P.length cp)) := Lib.hid HP1.out
  have HQ2 : Hid ((W.drewN nq).cell? ⟨w.heap.size + 1, 1, none⟩ = some (.slice AQ Q.length cq)) := Lib.hid HQ1.out
  have HW2 : Hid ((W.drewN nq).heap.size = w.heap.size + 2) := Lib.hid hWs.out
  generalize W.drewN nq = W1 at *
  clear HP1 HQ1 HB0 HW hWs
  have m1 := HMK1.out W1
  have m2 := HMK2.out (W1.alloc (.cells (madeCells #[.slice none 0 0] (P.length + 1)) 50))
  go_upto_region 4 with fail
  obtain ⟨W3, hW3⟩ : ∃ W3, (W1.alloc (.cells (madeCells #[.slice none 0 0] (P.length + 1)) 50)).alloc (.cells (madeCells #[.slice none 0 0] (P.length + 1)) 73) = W3 := ⟨_, rfl⟩
  obtain ⟨ob, hob⟩ : ∃ ob, W1.heap.size = ob := ⟨_, rfl⟩
  have HO3 : Hid (W3.heap[ob]? = some (rowB (List.replicate (P.length + 1) (.slice none 0 0)) 50)) := Lib.hid (by rw [← hW3, ← hob, Below.heap_alloc _ _ _ (by simp)]; exact made_row W1 _ _ _)
  have HS3 : Hid (W3.heap[ob + 1]? = some (rowB (List.replicate (P.length + 1) (.slice none 0 0)) 73)) := Lib.hid (by
    have h := made_row (W1.alloc (.cells (madeCells #[.slice none 0 0] (P.length + 1)) 50)) (P.length + 1) (.slice none 0 0) 73
    rw [hW3, World.size_alloc, hob] at h
    exact h)
  have HB3 : Hid (Below W1.heap.size W1 W3) := Lib.hid (by rw [← hW3]; exact ((Below.refl _ _).alloc (Nat.le_refl _) _).alloc (by simp) _)
  have HPW : Hid (IsRef W1 W1.heap.size AP P) := Lib.hid (HPP.out.later HB1.out)
  have HQW : Hid (IsRef W1 W1.heap.size AQ Q) := Lib.hid (HQQ.out.later HB1.out)
  have HOB := Lib.hid hob
  clear HMK1 HMK2 HPP HQQ m1 m2
  rw [hW3, hob]
  clear hW3 hob
  go_wp2_with fail
  go_loopw [10] (fun v10 wr => ∃ (k : Nat) (z : Int) (lo ls : List Value), k ≤ P.length + 1 ∧ z = (k : Int) - 1 ∧ v10 = .int .i64 z ∧ Hid (lo.length = P.length + 1 ∧ ls.length = P.length + 1) ∧ Hid (wr.heap[ob]? = some (rowB lo 50)) ∧ Hid (wr.heap[ob + 1]? = some (rowB ls 73)) ∧ Hid (∀ r, k ≤ r → r ≤ P.length → RowAt wr ob (ob + 1) P Q r) ∧ Hid (Below W1.heap.size W1 wr)) (fun v10 _ => (intOf v10 + 1).toNat)
  case atStart => exact ⟨P.length + 1, P.length, _, _, by omega, by omega, rfl, Lib.hid ⟨by simp, by simp⟩, HO3, HS3, Lib.hid (fun r h1 h2 => by omega), HB3⟩
  case round =>
    obtain ⟨k, z, lo, ls, hk, hz, rfl, HLL, HO, HS, HR, HB⟩ := hrel
    cases k with
    | zero =>
      obtain rfl : z = -1 := by omega
      clear hz
      obtain ⟨x, y, _, _, _, _, c1, c2, c3, c4⟩ := HR.out 0 (by omega) (by omega)
      have c5 := c3 0 (by omega)
      have c6 := c4 0 (by omega)
      have HBF := Lib.hid (HB1.out.trans (HB.out.mono HB1.out.size))
      rw [show TabF P Q 0 0 = bestF P Q from rfl] at c5 c6
      clear c3 c4 HR HO HS HB
      go_upto_region 28 with fail
      go_quiet (fail)
      go_wp2_with fail
      go_ret2
      exact ⟨rfl, below_drewN HBF.out _⟩
    | succ i =>
      obtain rfl : z = (i : Int) := by omega
      clear hz
      have hin : i ≤ P.length := by omega
      go_upto_region 7 with fail
      have hl := HLL.out
      have bS : Below wr.heap.size wr ((wr.alloc (.cells (madeCells #[.string ⟨#[]⟩] (Q.length + 1)) 9)).alloc (.cells (madeCells #[.bool false] (Q.length + 1)) 4)) := ((Below.refl wr.heap.size wr).alloc (Nat.le_refl _) _).alloc (by simp) _
      have bB : Below wr.heap.size wr ((wr.alloc (.cells (madeCells #[.bool false] (Q.length + 1)) 4)).alloc (.cells (madeCells #[.string ⟨#[]⟩] (Q.length + 1)) 9)) := ((Below.refl wr.heap.size wr).alloc (Nat.le_refl _) _).alloc (by simp) _
      have BS := Lib.hid bS
      have BB := Lib.hid bB
      obtain ⟨e1, e2, e3, e4⟩ := spec_store (by omega) HO.out HS.out (i := i) (by omega) (by omega) bS (.slice (some ⟨wr.heap.size, 0, none⟩) (Q.length + 1) (Q.length + 1))
      obtain ⟨e5, e6, e7, e8⟩ := spec_store (by omega) HO.out HS.out (i := i) (by omega) (by omega) bB (.slice (some ⟨wr.heap.size + 1, 0, none⟩) (Q.length + 1) (Q.length + 1))
      have E1 : ((wr.alloc (.cells (madeCells #[.string ⟨#[]⟩] (Q.length + 1)) 9)).alloc (.cells (madeCells #[.bool false] (Q.length + 1)) 4)).drew.cell? ⟨ob, i, none⟩ = some (lo.getD i undef) := e1
      have E2 : ((wr.alloc (.cells (madeCells #[.string ⟨#[]⟩] (Q.length + 1)) 9)).alloc (.cells (madeCells #[.bool false] (Q.length + 1)) 4)).drew.frozen? ⟨ob, i, none⟩ = false := e2
      have E3 : (((wr.alloc (.cells (madeCells #[.string ⟨#[]⟩] (Q.length + 1)) 9)).alloc (.cells (madeCells #[.bool false] (Q.length + 1)) 4)).setCell ⟨ob, i, none⟩ (.slice (some ⟨wr.heap.size, 0, none⟩) (Q.length + 1) (Q.length + 1))).drew.cell? ⟨ob + 1, i, none⟩ = some (ls.getD i undef) := e3
      have E4 : (((wr.alloc (.cells (madeCells #[.string ⟨#[]⟩] (Q.length + 1)) 9)).alloc (.cells (madeCells #[.bool false] (Q.length + 1)) 4)).setCell ⟨ob, i, none⟩ (.slice (some ⟨wr.heap.size, 0, none⟩) (Q.length + 1) (Q.length + 1))).drew.frozen? ⟨ob + 1, i, none⟩ = false := e4
      have E5 : ((wr.alloc (.cells (madeCells #[.bool false] (Q.length + 1)) 4)).alloc (.cells (madeCells #[.string ⟨#[]⟩] (Q.length + 1)) 9)).drew.cell? ⟨ob, i, none⟩ = some (lo.getD i undef) := e5
      have E6 : ((wr.alloc (.cells (madeCells #[.bool false] (Q.length + 1)) 4)).alloc (.cells (madeCells #[.string ⟨#[]⟩] (Q.length + 1)) 9)).drew.frozen? ⟨ob, i, none⟩ = false := e6
      have E7 : (((wr.alloc (.cells (madeCells #[.bool false] (Q.length + 1)) 4)).alloc (.cells (madeCells #[.string ⟨#[]⟩] (Q.length + 1)) 9)).setCell ⟨ob, i, none⟩ (.slice (some ⟨wr.heap.size + 1, 0, none⟩) (Q.length + 1) (Q.length + 1))).drew.cell? ⟨ob + 1, i, none⟩ = some (ls.getD i undef) := e7
      have E8 : (((wr.alloc (.cells (madeCells #[.bool false] (Q.length + 1)) 4)).alloc (.cells (madeCells #[.string ⟨#[]⟩] (Q.length + 1)) 9)).setCell ⟨ob, i, none⟩ (.slice (some ⟨wr.heap.size + 1, 0, none⟩) (Q.length + 1) (Q.length + 1))).drew.frozen? ⟨ob + 1, i, none⟩ = false := e8
      obtain ⟨e9, e10, e98, e99⟩ := spec_store (by omega) HO.out HS.out (i := i) (by omega) (by omega) ((Below.refl wr.heap.size wr).alloc (Nat.le_refl _) (.cells (madeCells #[.string ⟨#[]⟩] (Q.length + 1)) 9)) (.slice (some ⟨wr.heap.size, 0, none⟩) (Q.length + 1) (Q.length + 1))
      have E9 : (wr.alloc (.cells (madeCells #[.string ⟨#[]⟩] (Q.length + 1)) 9)).drew.cell? ⟨ob, i, none⟩ = some (lo.getD i undef) := e9
      have E10 : (wr.alloc (.cells (madeCells #[.string ⟨#[]⟩] (Q.length + 1)) 9)).drew.frozen? ⟨ob, i, none⟩ = false := e10
      have hsw := setCell_alloc (wr.alloc (.cells (madeCells #[.string ⟨#[]⟩] (Q.length + 1)) 9)) ⟨ob, i, none⟩ (.slice (some ⟨wr.heap.size, 0, none⟩) (Q.length + 1) (Q.length + 1)) (.cells (madeCells #[.bool false] (Q.length + 1)) 4) (by have := lt_of_block HO.out; simp; omega)
      have E11 : (((wr.alloc (.cells (madeCells #[.string ⟨#[]⟩] (Q.length + 1)) 9)).setCell ⟨ob, i, none⟩ (.slice (some ⟨wr.heap.size, 0, none⟩) (Q.length + 1) (Q.length + 1))).alloc (.cells (madeCells #[.bool false] (Q.length + 1)) 4)).drew.cell? ⟨ob + 1, i, none⟩ = some (ls.getD i undef) := by rw [hsw]; exact E3
      have E12 : (((wr.alloc (.cells (madeCells #[.string ⟨#[]⟩] (Q.length + 1)) 9)).setCell ⟨ob, i, none⟩ (.slice (some ⟨wr.heap.size, 0, none⟩) (Q.length + 1) (Q.length + 1))).alloc (.cells (madeCells #[.bool false] (Q.length + 1)) 4)).drew.frozen? ⟨ob + 1, i, none⟩ = false := by rw [hsw]; exact E4
      have HSW := Lib.hid hsw
      clear hsw e1 e2 e3 e4 e5 e6 e7 e8 e9 e10 e98 e99
      have mS := HMK3.out
      have mB := HMK4.out
      have hii : (i : Int) < (P.length : Int) + 1 := by omega
      have hi0 : ((i : Nat) : Int) < ((P.length + 1 : Nat) : Int) := by omega
      have hin2 : i < P.length + 1 := by omega
      clear hl bS bB
      go_cut [10] (fun v10 wx => v10 = .int .i64 i ∧ ∃ x y : Nat, wr.heap.size ≤ x ∧ wr.heap.size ≤ y ∧ x ≠ y ∧ Hid (Below ((wr.setCell ⟨ob, i, none⟩ (.slice (some ⟨x, 0, none⟩) (Q.length + 1) (Q.length + 1))).setCell ⟨ob + 1, i, none⟩ (.slice (some ⟨y, 0, none⟩) (Q.length + 1) (Q.length + 1))).heap.size ((wr.setCell ⟨ob, i, none⟩ (.slice (some ⟨x, 0, none⟩) (Q.length + 1) (Q.length + 1))).setCell ⟨ob + 1, i, none⟩ (.slice (some ⟨y, 0, none⟩) (Q.length + 1) (Q.length + 1))) wx) ∧ Hid (wx.heap[x]? = some (rowB (xsF P Q i (Q.length + 1)) 9)) ∧ Hid (wx.heap[y]? = some (rowB (ysF P Q i (Q.length + 1)) 4)))
      case first =>
        have hol := lt_of_block HO.out
        have hsl := lt_of_block HS.out
        have HN1 := Lib.hid (new_rows (i := i) (A := .cells (madeCells #[.string ⟨#[]⟩] (Q.length + 1)) 9) (B := .cells (madeCells #[.bool false] (Q.length + 1)) 4) (.slice (some ⟨wr.heap.size, 0, none⟩) (Q.length + 1) (Q.length + 1)) (.slice (some ⟨wr.heap.size + 1, 0, none⟩) (Q.length + 1) (Q.length + 1)) hol hsl)
        have HN2 := Lib.hid (new_rows (i := i) (A := .cells (madeCells #[.bool false] (Q.length + 1)) 4) (B := .cells (madeCells #[.string ⟨#[]⟩] (Q.length + 1)) 9) (.slice (some ⟨wr.heap.size + 1, 0, none⟩) (Q.length + 1) (Q.length + 1)) (.slice (some ⟨wr.heap.size, 0, none⟩) (Q.length + 1) (Q.length + 1)) hol hsl)
        have G1 : Hid (∃ x y : Nat, wr.heap.size ≤ x ∧ wr.heap.size ≤ y ∧ x ≠ y ∧ Hid (Below ((wr.setCell ⟨ob, i, none⟩ (.slice (some ⟨x, 0, none⟩) (Q.length + 1) (Q.length + 1))).setCell ⟨ob + 1, i, none⟩ (.slice (some ⟨y, 0, none⟩) (Q.length + 1) (Q.length + 1))).heap.size ((wr.setCell ⟨ob, i, none⟩ (.slice (some ⟨x, 0, none⟩) (Q.length + 1) (Q.length + 1))).setCell ⟨ob + 1, i, none⟩ (.slice (some ⟨y, 0, none⟩) (Q.length + 1) (Q.length + 1))) ((((wr.alloc (.cells (madeCells #[.string ⟨#[]⟩] (Q.length + 1)) 9)).alloc (.cells (madeCells #[.bool false] (Q.length + 1)) 4)).setCell ⟨ob, i, none⟩ (.slice (some ⟨wr.heap.size, 0, none⟩) (Q.length + 1) (Q.length + 1))).setCell ⟨ob + 1, i, none⟩ (.slice (some ⟨wr.heap.size + 1, 0, none⟩) (Q.length + 1) (Q.length + 1))).drew) ∧ Hid (((((wr.alloc (.cells (madeCells #[.string ⟨#[]⟩] (Q.length + 1)) 9)).alloc (.cells (madeCells #[.bool false] (Q.length + 1)) 4)).setCell ⟨ob, i, none⟩ (.slice (some ⟨wr.heap.size, 0, none⟩) (Q.length + 1) (Q.length + 1))).setCell ⟨ob + 1, i, none⟩ (.slice (some ⟨wr.heap.size + 1, 0, none⟩) (Q.length + 1) (Q.length + 1))).drew.heap[x]? = some (rowB (xsF P Q i (Q.length + 1)) 9)) ∧ Hid (((((wr.alloc (.cells (madeCells #[.string ⟨#[]⟩] (Q.length + 1)) 9)).alloc (.cells (madeCells #[.bool false] (Q.length + 1)) 4)).setCell ⟨ob, i, none⟩ (.slice (some ⟨wr.heap.size, 0, none⟩) (Q.length + 1) (Q.length + 1))).setCell ⟨ob + 1, i, none⟩ (.slice (some ⟨wr.heap.size + 1, 0, none⟩) (Q.length + 1) (Q.length + 1))).drew.heap[y]? = some (rowB (ysF P Q i (Q.length + 1)) 4))) := Lib.hid ⟨wr.heap.size, wr.heap.size + 1, by omega, by omega, by omega, Lib.hid (below_spec _ _ _ _ BS.out).drew, Lib.hid (by rw [heap_drew, HN1.out.1, made_obj, xs_zero]), Lib.hid (by rw [heap_drew, HN1.out.2, made_obj, ys_zero])⟩
        have G2 : Hid (∃ x y : Nat, wr.heap.size ≤ x ∧ wr.heap.size ≤ y ∧ x ≠ y ∧ Hid (Below ((wr.setCell ⟨ob, i, none⟩ (.slice (some ⟨x, 0, none⟩) (Q.length + 1) (Q.length + 1))).setCell ⟨ob + 1, i, none⟩ (.slice (some ⟨y, 0, none⟩) (Q.length + 1) (Q.length + 1))).heap.size ((wr.setCell ⟨ob, i, none⟩ (.slice (some ⟨x, 0, none⟩) (Q.length + 1) (Q.length + 1))).setCell ⟨ob + 1, i, none⟩ (.slice (some ⟨y, 0, none⟩) (Q.length + 1) (Q.length + 1))) ((((wr.alloc (.cells (madeCells #[.bool false] (Q.length + 1)) 4)).alloc (.cells (madeCells #[.string ⟨#[]⟩] (Q.length + 1)) 9)).setCell ⟨ob, i, none⟩ (.slice (some ⟨wr.heap.size + 1, 0, none⟩) (Q.length + 1) (Q.length + 1))).setCell ⟨ob + 1, i, none⟩ (.slice (some ⟨wr.heap.size, 0, none⟩) (Q.length + 1) (Q.length + 1))).drew) ∧ Hid (((((wr.alloc (.cells (madeCells #[.bool false] (Q.length + 1)) 4)).alloc (.cells (madeCells #[.string ⟨#[]⟩] (Q.length + 1)) 9)).setCell ⟨ob, i, none⟩ (.slice (some ⟨wr.heap.size + 1, 0, none⟩) (Q.length + 1) (Q.length + 1))).setCell ⟨ob + 1, i, none⟩ (.slice (some ⟨wr.heap.size, 0, none⟩) (Q.length + 1) (Q.length + 1))).drew.heap[x]? = some (rowB (xsF P Q i (Q.length + 1)) 9)) ∧ Hid (((((wr.alloc (.cells (madeCells #[.bool false] (Q.length + 1)) 4)).alloc (.cells (madeCells #[.string ⟨#[]⟩] (Q.length + 1)) 9)).setCell ⟨ob, i, none⟩ (.slice (some ⟨wr.heap.size + 1, 0, none⟩) (Q.length + 1) (Q.length + 1))).setCell ⟨ob + 1, i, none⟩ (.slice (some ⟨wr.heap.size, 0, none⟩) (Q.length + 1) (Q.length + 1))).drew.heap[y]? = some (rowB (ysF P Q i (Q.length + 1)) 4))) := Lib.hid ⟨wr.heap.size + 1, wr.heap.size, by omega, by omega, by omega, Lib.hid (below_spec _ _ _ _ BB.out).drew, Lib.hid (by rw [heap_drew, HN2.out.2, made_obj, xs_zero]), Lib.hid (by rw [heap_drew, HN2.out.1, made_obj, ys_zero])⟩
        clear hol hsl HN1 HN2
        go_region
        all_goals go_wp2_with fail
        all_goals go_meet
        all_goals first
          | exact ⟨rfl, G1.out⟩
          | exact ⟨rfl, G2.out⟩
          | (rw [HSW.out]; exact ⟨rfl, G1.out⟩)
      case rest =>
        obtain ⟨rfl, x, y, hx, hy, hxy, HBV, HX, HY⟩ := hcut
        obtain ⟨V, hV⟩ : ∃ V, (wr.setCell ⟨ob, i, none⟩ (.slice (some ⟨x, 0, none⟩) (Q.length + 1) (Q.length + 1))).setCell ⟨ob + 1, i, none⟩ (.slice (some ⟨y, 0, none⟩) (Q.length + 1) (Q.length + 1)) = V := ⟨_, rfl⟩
        have hVs : V.heap.size = wr.heap.size := by rw [← hV]; simp
        have hol := lt_of_block HO.out
        have hsl := lt_of_block HS.out
        obtain ⟨s1, s2⟩ := spec_rows (i := i) (by omega : ob ≠ ob + 1) HO.out HS.out (.slice (some ⟨x, 0, none⟩) (Q.length + 1) (Q.length + 1)) (.slice (some ⟨y, 0, none⟩) (Q.length + 1) (Q.length + 1))
        rw [hV] at s1 s2 HBV
        have HVO := Lib.hid s1
        have HVS := Lib.hid s2
        have HRV : Hid (∀ r, i + 1 ≤ r → r ≤ P.length → RowAt V ob (ob + 1) P Q r) := Lib.hid (fun r h1 h2 => by rw [← hV]; exact (HR.out r h1 h2).spec (by omega) (by omega) HO.out HS.out (by have := HLL.out; omega) (by have := HLL.out; omega) _ _)
        have HBW : Hid (Below W1.heap.size W1 V) := Lib.hid (by rw [← hV]; exact (HB.out.setCell (p := ⟨ob, i, none⟩) (Nat.le_of_eq HOB.out) _).setCell (p := ⟨ob + 1, i, none⟩) (by show W1.heap.size ≤ ob + 1; have := HOB.out; omega) _)
        have HLX : Hid ((lo.set i (.slice (some ⟨x, 0, none⟩) (Q.length + 1) (Q.length + 1))).getD i undef = .slice (some ⟨x, 0, none⟩) (Q.length + 1) (Q.length + 1)) := Lib.hid (by
          have := HLL.out.1
          rw [List.getD_eq_getElem?_getD, List.getElem?_set_self (by omega)]; rfl)
        have HLY : Hid ((ls.set i (.slice (some ⟨y, 0, none⟩) (Q.length + 1) (Q.length + 1))).getD i undef = .slice (some ⟨y, 0, none⟩) (Q.length + 1) (Q.length + 1)) := Lib.hid (by
          have := HLL.out.2
          rw [List.getD_eq_getElem?_getD, List.getElem?_set_self (by omega)]; rfl)
        have HLL2 : Hid ((lo.set i (.slice (some ⟨x, 0, none⟩) (Q.length + 1) (Q.length + 1))).length = P.length + 1 ∧ (ls.set i (.slice (some ⟨y, 0, none⟩) (Q.length + 1) (Q.length + 1))).length = P.length + 1) := Lib.hid (by have h := HLL.out; simp only [List.length_set]; exact h)
        generalize lo.set i (.slice (some ⟨x, 0, none⟩) (Q.length + 1) (Q.length + 1)) = lo2 at *
        generalize ls.set i (.slice (some ⟨y, 0, none⟩) (Q.length + 1) (Q.length + 1)) = ls2 at *
        have hxV : V.heap.size ≤ x := by omega
        have hyV : V.heap.size ≤ y := by omega
        have hsV : ob + 1 < V.heap.size := by omega
        clear s1 s2 hV BS BB HSW HB HR HO HS E1 E2 E3 E4 E5 E6 E7 E8 E9 E10 E11 E12 mS mB hol hsl hx hy hVs hii hi0 hin2
        have HNI : Hid (∀ j W', j ≤ Q.length → Below V.heap.size V W' → W'.heap[x]? = some (rowB (xsF P Q i (j + 1)) 9) → W'.heap[y]? = some (rowB (ysF P Q i (j + 1)) 4) → NodeIn P Q AP AQ cp cq w.heap.size (w.heap.size + 1) ob i j W') := Lib.hid (fun j W0 hj hBV hX hY => by
          have HWW : ∀ W', Below W0.heap.size W0 W' → Below W1.heap.size W1 W' := fun W' hb => (HBW.out.trans (hBV.mono HBW.out.size)).trans (hb.mono (Nat.le_trans HBW.out.size hBV.size))
          refine ⟨fun W' c hb h1 h2 => get_next (HRV.out (i + 1) (by omega) (by omega)) (hBV.trans (hb.mono hBV.size)) hsV h2, fun W' hb h1 => get_this (hBV.trans (hb.mono hBV.size)) HVO.out HVS.out (by have := HLL2.out; omega) (by have := HLL2.out; omega) HLX.out HLY.out ((hb.block _ (lt_of_block hX)).trans hX) ((hb.block _ (lt_of_block hY)).trans hY) (by omega) (Nat.le_refl _), fun W' hb h1 => ?_, fun W' hb h1 => ?_⟩
          · obtain ⟨b, off, h2, _, h3, h4⟩ := (HPW.out.below (HWW W' hb)).at h1
            exact ⟨b, off, h2, ((HWW W' hb).cell (p := ⟨w.heap.size, 1, none⟩) (by show w.heap.size < _; have := HW2.out; omega)).trans HP2.out, h3, h4⟩
          · obtain ⟨b, off, h2, _, h3, h4⟩ := (HQW.out.below (HWW W' hb)).at h1
            exact ⟨b, off, h2, ((HWW W' hb).cell (p := ⟨w.heap.size + 1, 1, none⟩) (by show w.heap.size + 1 < _; have := HW2.out; omega)).trans HQ2.out, h3, h4⟩)
        have C1 := Lib.hid ((rowB_cell HVO.out (by have := HLL2.out; omega : i < lo2.length)).trans (congrArg some HLX.out))
        have C2 := Lib.hid ((rowB_cell HVS.out (by have := HLL2.out; omega : i < ls2.length)).trans (congrArg some HLY.out))
        rename_i K hK
        refine hK _ _ ?_
        refine rc_row lP lQ HOP.out HOQ.out hin HNI.out HBV.out hxV hyV hsV hxy C1.out C2.out HX.out HY.out ?_
        intro u11 u12 u13 u14 u15 u16 u17 u18 u48 u49 u50 u51 u52 u53 u54 u55 u56 u57 u58 u59 u60 u61 u62 u63 u64 u65 u66 u67 u68 u69 u70 u71 u72 u73 u74 u75 u76 u77 u78 u79 u80 u81 u82 u83 u84 u85 u86 u87 u88 u89 u90 u91 u92 u93 u94 u95 u96 u97 u98 u99 u100 u101 u102 u103 u104 u105 u106 u107 u108 u109 u110 u111 u112 u113 u114 u115 u116 u117 u118 u119 u120 u121 u122 u123 u124 u125 u126 u127 u128 u129 u130 u131 u132 u133 u134 u135 u136 u137 u138 u139 u140 u141 u142 u143 u144 u145 u146 u147 u148 u149 u150 u151 u152 u153 u154 u155 u156 u157 u158 u159 u160 u161 u162 u163 u164 u165 u166 u167 u168 u169 u170 u171 u172 u173 u174 u175 u176 u177 u178 u179 u180 u181 u182 u183 u184 u185 u186 u187 u188 u189 u190 u191 u192 u193 u194 u195 u196 u197 u198 u199 u200 u201 u202 u203 u204 u205 u206 u207 u208 u209 u210 u211 u212 u213 u214 u215 u216 u217 u218 u219 u220 u221 u222 u223 u224 u225 u226 u227 u228 u229 u230 u231 u232 u233 u234 u235 u236 u237 u238 u239 w5 ⟨b5, x5, y5⟩
        have B5 := Lib.hid b5
        have X5 := Lib.hid x5
        have Y5 := Lib.hid y5
        clear b5 x5 y5 HBV HX HY
        go_wp2_with fail
        go_roundw
        case measure => simp [intOf] <;> omega
        case rel =>
          refine ⟨i, (i : Int) - 1, lo2, ls2, by omega, rfl, rfl, HLL2, Lib.hid ((B5.out.block _ (lt_of_block HVO.out)).trans HVO.out), Lib.hid ((B5.out.block _ (lt_of_block HVS.out)).trans HVS.out), Lib.hid (fun r h1 h2 => ?_), Lib.hid (HBW.out.trans (B5.out.mono HBW.out.size))⟩
          rcases Nat.lt_or_ge i r with h3 | h3
          · exact (HRV.out r h3 h2).below B5.out (by omega) hsV
          · obtain rfl : r = i := by omega
            exact row_done B5.out HVO.out HVS.out (by have := HLL2.out; omega) (by have := HLL2.out; omega) HLX.out HLY.out (by omega) (by omega) X5.out Y5.out

end Go.Proofs.YtgnmanmlnbidfaaDoor
