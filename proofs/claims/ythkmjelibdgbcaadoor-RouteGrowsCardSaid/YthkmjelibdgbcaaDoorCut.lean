/- Route: the law's cut, by a walk through its text. -/
import Derived.Test.YthkmjelibdgbcaaDoorApp
namespace Go.Proofs.YthkmjelibdgbcaaDoor
open Go.RowKit

def cutS (x : ByteArray) : ByteArray := x.extract 0 (min x.size 40)
theorem cutS_of {x : ByteArray} {m : Nat} (h : min (x.size : Int) 40 = (m : Int)) : cutS x = x.extract 0 m := by
  unfold cutS
  congr 1
  omega

def cutF (l : List ByteArray) : List ByteArray := (l.take 60).map cutS

theorem cutF_length (l : List ByteArray) : (cutF l).length ≤ 60 := by simp [cutF]; omega

theorem cut_on {l : List ByteArray} {k : Nat} (hk : k < l.length) : (l.take k).map cutS ++ [cutS (l.getD k ByteArray.empty)] = (l.take (k + 1)).map cutS := by
  rw [List.take_succ_eq_append_getElem hk, List.map_append]; simp [List.getD_eq_getElem?_getD, hk]

theorem cut_any (A : Option Addr) (ca : Nat) (l : List ByteArray) (w : World) (hl : ReadsS w A l) :
    Calls Tryd.prog 15 #[.slice A l.length ca] w fun e w' => (∃ A' cap', e = .returned (.slice A' (cutF l).length cap') ∧ OwnS w' w.heap.size (.slice A' (cutF l).length cap') (cutF l)) ∧ Below w.heap.size w w' := by
  have HL := Lib.hid hl
  clear hl
  go_enter Tryd.func15, Tryd.ntmps15
  go_wp2_with fail
  go_loopw [3, 4] (fun vo v wr => ∃ k : Nat, k ≤ l.length ∧ k ≤ 60 ∧ v = .int .i64 k ∧ (∃ A' cap', vo = .slice A' ((l.take k).map cutS).length cap' ∧ Hid (OwnS wr w.heap.size (.slice A' ((l.take k).map cutS).length cap') ((l.take k).map cutS))) ∧ Below w.heap.size w wr) (fun _ v _ => (l.length - intOf v).toNat)
  case atStart => exact ⟨0, by omega, by omega, rfl, ⟨none, 0, rfl, Lib.hid (OwnS.nil _ _)⟩, Below.refl _ _⟩
  case round =>
    obtain ⟨k, hk, hk6, rfl, ⟨A', cap', rfl, HO⟩, HB⟩ := hrel
    by_cases hlt : k < l.length
    · by_cases h60 : k < 60
      · obtain ⟨b1, o1, hA, hb1, hc1⟩ := (HL.out.below HB).at hlt
        subst hA
        have d1 : decide ((k : Int) < (l.length : Int)) = true := decide_eq_true (by omega)
        have d2 : decide ((k : Int) < 60) = true := decide_eq_true (by omega)
        have i1 : (k : Int) < (l.length : Int) := by omega
        have HON := Lib.hid (cut_on hlt)
        have hll : ((l.take k).map cutS).length ≤ 60 := by simp; omega
        generalize (l.take k).map cutS = o at *
        generalize ho2 : (l.take (k + 1)).map cutS = o2 at *
        have HO2 := Lib.hid ho2
        clear ho2
        generalize l.getD k ByteArray.empty = x at *
        obtain ⟨m, hm⟩ : ∃ m : Nat, min (x.size : Int) 40 = (m : Int) := ⟨min x.size 40, by omega⟩
        have hcx := Lib.hid (cutS_of hm)
        have hmle : m ≤ x.size := by omega
        have HON2 : Hid (o ++ [x.extract 0 m] = o2) := Lib.hid (by rw [← hcx.out]; exact HON.out)
        clear HON
        have hsz := HB.size
        go_wp2_with fail
        go_region_law (refine step_append_str rfl (.tmp 15) (.tmp 27) 23 Tryd.underlying23 rfl w.heap.size _ o (by simp [Act.eval, Act.put]) (HO.out.drew.alloc _) _ 1 1 (by simp [Act.eval, Act.put]) [x.extract 0 m] rfl (reads_one _ _) (fun e => by cases e) (by simp; omega) (by simp; omega) o2 HON2.out ?_; intro A3 cap3 w3 HO3 HG3; have HO3 := Lib.hid HO3; have HG3 := Lib.hid HG3)
        all_goals go_wp2_with fail
        all_goals go_roundw
        all_goals first
          | exact ⟨k + 1, by omega, by omega, by simp, ⟨A3, cap3, by rw [HO2.out], by rw [HO2.out]; exact HO3⟩, (HB.drew.alloc hsz _).grown HG3.out (by simp; omega) (fun j e => (HO.out.blk j e).1)⟩
          | (simp [intOf]; omega)
      · obtain rfl : k = 60 := by omega
        have d1 : decide (((60 : Nat) : Int) < (l.length : Int)) = true := decide_eq_true (by omega)
        have E : Hid ((l.take 60).map cutS = cutF l) := Lib.hid rfl
        generalize (l.take 60).map cutS = o at *
        go_wp2_with fail
        go_ret
        exact ⟨⟨A', cap', by rw [← E.out]; rfl, by rw [← E.out]; exact HO.out⟩, HB⟩
    · obtain rfl : k = l.length := by omega
      clear hk hlt
      have E : Hid ((l.take l.length).map cutS = cutF l) := Lib.hid (by rw [List.take_length, cutF, List.take_of_length_le hk6])
      generalize (l.take l.length).map cutS = o at *
      go_wp2_with fail
      go_ret
      exact ⟨⟨A', cap', by rw [← E.out]; rfl, by rw [← E.out]; exact HO.out⟩, HB⟩

end Go.Proofs.YthkmjelibdgbcaaDoor
