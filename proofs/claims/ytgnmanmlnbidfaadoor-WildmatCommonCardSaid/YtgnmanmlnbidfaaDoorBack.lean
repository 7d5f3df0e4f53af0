/- Wildmat: a range backward over a list's items: the iterator's contract. -/
import Derived.RangeFuncNested
import Derived.RangeFuncBound
import Derived.RangeFuncCalls
import Derived.RangeFuncLeaves
import Derived.Shelf.Abstract
import Derived.Shelf.RegionOpen
import Derived.WalkKit
import Derived.OwnWalkIn
import Derived.TacticsInMore
import Derived.LoopNIn
import Derived.LoopIn
import Derived.Test.YtgnmanmlnbidfaaDoorList
namespace Go.Proofs.YtgnmanmlnbidfaaDoor
open Go.RowKit Go.Shelf

attribute [local go_sem] Oper.semAt_some

abbrev Ix (len : Nat) := { i : Nat // i < len }
def downF (len k : Nat) : List Nat := (List.range k).map fun j => len - 1 - j
theorem downF_succ (len k : Nat) : downF len (k + 1) = downF len k ++ [len - 1 - k] := by simp [downF, List.range_succ]
theorem downF_length (len k : Nat) : (downF len k).length = k := by simp [downF]

abbrev encI (len : Nat) (vOf bOf : Nat → Nat) : Ix len → Array Value := fun x => #[.int .i64 (x.1 : Nat), .agg #[.int .i64 (vOf x.1 : Nat), .pointer (some ⟨bOf x.1, 0, none⟩)]]

set_option maxRecDepth 100000 in
set_option maxHeartbeats 2000000 in
theorem back1_in (F : Fence) (n : Nat) (h55 : F.fn 55) (hro : F.round = none) (hn : 1 ≤ n) (l Bs n₀ b off len cap : Nat) (vOf bOf : Nat → Nat) (hl : len ≤ 64) (hb : b < n₀) (hbs : Bs < n₀) (J Jx : List (Ix len) → World → Prop)
    (hY : ∀ pre x W, J pre W → pre.length < len → YieldAt F (n - 1) Tryd.prog l (encI len vOf bOf x) W fun e W' =>
      (e = .returned (.bool true) ∧ J (pre ++ [x]) W' ∧ Below n₀ W W') ∨ (e = .returned (.bool false) ∧ Jx (pre ++ [x]) W'))
    (W : World) (hBs : W.cell? ⟨Bs, 0, none⟩ = some (.slice (some ⟨b, off, none⟩) len cap))
    (hc : ∀ j, j < len → W.cell? ⟨b, off + j * 2, none⟩ = some (.int .i64 (vOf j : Nat)) ∧ W.cell? ⟨b, off + j * 2 + 1, none⟩ = some (.pointer (some ⟨bOf j, 0, none⟩))) (h0 : J [] W) :
    CallsIn F n Tryd.prog 55 #[.func (.yield l) #[] #[], .pointer (some ⟨Bs, 0, none⟩)] W fun e W' => (∃ v, e = .returned v) ∧
      ((∃ ys, ys.map (·.1) = downF len len ∧ J ys W') ∨ (∃ pre, (∃ k, k ≤ len ∧ pre.map (·.1) = downF len k) ∧ Jx pre W')) := by
  refine callsIn_of_wp Tryd.func55 rfl h55 ?_ hro
  simp only [Tryd.ntmps55, List.size_toArray, List.length_cons, List.length_nil, Nat.reduceAdd, Nat.reduceSub, Array.replicate_succ, Array.replicate_zero, List.push_toArray, List.append_toArray, List.nil_append, List.cons_append]
  gi_wp2
  gi_loopw [3] (fun i wr => ∃ (m : Nat) (pre : List (Ix len)), m ≤ len ∧ i = .int .i64 ((m : Int) - 1) ∧ pre.map (·.1) = downF len (len - m) ∧ J pre wr ∧ Below n₀ W wr)
    (fun i _ => (intOf i + 1).toNat)
  case atStart => exact ⟨len, [], Nat.le_refl _, by go_num, by rw [Nat.sub_self]; rfl, h0, Below.refl _ _⟩
  case round =>
    obtain ⟨m, pre, hm, rfl, hpre, hJs, hnx⟩ := hrel
    have hcs := (hnx.cell (p := ⟨Bs, 0, none⟩) hbs).trans hBs
    cases m with
    | zero =>
      rw [show (((0 : Nat) : Int) - 1) = -1 from rfl]
      gi_wp2
      go_end0
      exact ⟨⟨_, rfl⟩, .inl ⟨pre, hpre, hJs⟩⟩
    | succ m =>
      rw [show (((m + 1 : Nat) : Int) - 1) = (m : Int) by omega]
      have hlt : m < len := by omega
      have hpl : pre.length < len := by
        have := congrArg List.length hpre
        rw [List.length_map, downF_length] at this
        omega
      have hi1 : (m : Int) < (len : Int) := by omega
      obtain ⟨fn, tmps, assign, body, hy, hR⟩ := hY pre ⟨m, hlt⟩ wr hJs hpl
      try unfold encI at hy
      try dsimp only at hy
      obtain ⟨k0, k1⟩ := hc m hlt
      have d0 := (hnx.cell (p := ⟨b, off + m * 2, none⟩) hb).trans k0
      have d1 := (hnx.cell (p := ⟨b, off + m * 2 + 1, none⟩) hb).trans k1
      have hdn : (pre ++ [(⟨m, hlt⟩ : Ix len)]).map (·.1) = downF len (len - m) := by
        rw [List.map_append, hpre, show len - m = (len - (m + 1)) + 1 by omega, downF_succ, List.map_cons, List.map_nil, show len - 1 - (len - (m + 1)) = m by omega]
      clear k0 k1
      gi_wp2
      refine hR.mono ?_
      rintro e W3 (⟨rfl, hJ3, hk3⟩ | ⟨rfl, hJx3⟩)
      · gi_wp2
        go_roundw
        case rel => exact ⟨m, _, by omega, by go_num, hdn, hJ3, hnx.trans hk3⟩
        case measure => simp [intOf]
      · gi_wp2
        refine bodyPost_ret (results_none rfl _ _ _) rfl ?_
        exact ⟨⟨_, rfl⟩, .inr ⟨_, ⟨len - m, by omega, hdn⟩, hJx3⟩⟩

set_option maxRecDepth 100000 in
set_option maxHeartbeats 1000000 in
theorem back1_nil_in (F : Fence) (n : Nat) (h55 : F.fn 55) (hro : F.round = none) (l Bs cap : Nat) (A : Option Addr) (J : List (Ix 0) → World → Prop) (W : World) (hBs : W.cell? ⟨Bs, 0, none⟩ = some (.slice A 0 cap)) (h0 : J [] W) :
    CallsIn F n Tryd.prog 55 #[.func (.yield l) #[] #[], .pointer (some ⟨Bs, 0, none⟩)] W fun e W' => (∃ v, e = .returned v) ∧ J [] W' := by
  refine callsIn_of_wp Tryd.func55 rfl h55 ?_ hro
  simp only [Tryd.ntmps55, List.size_toArray, List.length_cons, List.length_nil, Nat.reduceAdd, Nat.reduceSub, Array.replicate_succ, Array.replicate_zero, List.push_toArray, List.append_toArray, List.nil_append, List.cons_append]
  gi_wp2
  gi_loopw [3] (fun i wr => i = .int .i64 (-1) ∧ J [] wr) (fun _ _ => 0)
  case atStart => exact ⟨rfl, h0⟩
  case round =>
    obtain ⟨rfl, hJs⟩ := hrel
    gi_wp2
    go_end0
    exact ⟨⟨_, rfl⟩, hJs⟩

set_option maxHeartbeats 1000000 in
theorem back_in (F : Fence) (n : Nat) (h45 : F.fn 45) (hro : F.round = none) (a : Option Addr) (len cap : Nat) (w : World) :
    CallsIn F n Tryd.prog 45 #[.slice a len cap] w fun e w' => e = .returned (.func (.func 55) #[] #[.pointer (some ⟨w.heap.size, 0, none⟩)]) ∧ w' = w.alloc (.cells #[.slice a len cap] 94) := by
  refine callsIn_of_wp Tryd.func45 rfl h45 ?_ hro
  simp only [Tryd.ntmps45, List.size_toArray, List.length_cons, List.length_nil, Nat.reduceAdd, Nat.reduceSub, Array.replicate_succ, Array.replicate_zero, List.push_toArray, List.append_toArray, List.nil_append, List.cons_append]
  gi_wp2
  go_ret
  exact ⟨rfl, rfl⟩

theorem back_stops (F : Fence) (n : Nat) (h55 : F.fn 55) (hro : F.round = none) (hn : 1 ≤ n) (Bs n₀ len cap : Nat) (A : Option Addr) (vOf bOf : Nat → Nat) (hl : len ≤ 64) (w : World) (hBs : Bs < n₀) (hn₀ : n₀ ≤ w.heap.size)
    (hc : w.cell? ⟨Bs, 0, none⟩ = some (.slice A len cap))
    (hI : len = 0 ∨ ∃ b off, A = some ⟨b, off, none⟩ ∧ b < n₀ ∧ ∀ j, j < len → w.cell? ⟨b, off + j * 2, none⟩ = some (.int .i64 (vOf j : Nat)) ∧ w.cell? ⟨b, off + j * 2 + 1, none⟩ = some (.pointer (some ⟨bOf j, 0, none⟩))) :
    SeqStopsK F n Tryd.prog 55 #[.pointer (some ⟨Bs, 0, none⟩)] (encI len vOf bOf) (Below n₀) (fun ys => ys.map (·.1) = downF len len) (fun pre => ∃ k, k ≤ len ∧ pre.map (·.1) = downF len k) len w := fun l J Jx W hW _ _ hY h0 => by
  have hW' := hW.mono hn₀
  have hc' := (hW'.cell (p := ⟨Bs, 0, none⟩) hBs).trans hc
  rcases hI with rfl | ⟨b, off, rfl, hb, hcs⟩
  · exact (back1_nil_in F n h55 hro l Bs cap A J W hc' h0).mono fun e W' ⟨he, hj⟩ => ⟨he, .inl ⟨[], rfl, hj⟩⟩
  · exact back1_in F n h55 hro hn l Bs n₀ b off len cap vOf bOf hl hb hBs J Jx hY W hc' (fun j hj => ⟨(hW'.cell (p := ⟨b, off + j * 2, none⟩) hb).trans (hcs j hj).1, (hW'.cell (p := ⟨b, off + j * 2 + 1, none⟩) hb).trans (hcs j hj).2⟩) h0

end Go.Proofs.YtgnmanmlnbidfaaDoor
