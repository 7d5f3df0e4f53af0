/- Route: Loop and the reference's Loop, by walks through their text. -/
import Derived.Test.YthkmjelibdgbcaaDoorList
import Derived.Deep.RegionWith
namespace Go.Proofs.YthkmjelibdgbcaaDoor
open Go.RowKit

theorem wraps_i64 (n : Int) (h₀ : 0 ≤ n) (h₁ : n < 2 ^ 62) : IntKind.i64.wrap n = n := by
  rw [IntKind.wrap_i64]
  have : (2 : Int) ^ 62 = 4611686018427387904 := by decide
  rw [this] at h₁
  omega

/-- A reslice's address. -/
def cutA (A : Option Addr) (cap m : Nat) : Option Addr := if cap = m then A else A.map (·.add (m * 1))

theorem slice_from22 (A : Option Addr) (n cap m : Nat) (i : Int) (hi : i = m) (hm : m ≤ n) (w : World) : (Instr.slice 22 (.slice A n cap) (some (.int .i64 i)) none none).run Tryd.prog w = .ok (.slice (cutA A cap m) (n - m) (cap - m)) w := by
  subst hi
  rw [run_slice_l w 22 A n cap Tryd.underlying22 .i64 (m : Int) (by omega) (by omega)]
  have e : Tryd.prog.elem 22 = 9 := by kernel_rfl
  rw [e, Tryd.sizeOf9]
  simp [Result.andThen, sliced, cutA]

theorem slice_from23 (A : Option Addr) (n cap m : Nat) (i : Int) (hi : i = m) (hm : m ≤ n) (w : World) : (Instr.slice 23 (.slice A n cap) (some (.int .i64 i)) none none).run Tryd.prog w = .ok (.slice (cutA A cap m) (n - m) (cap - m)) w := by
  subst hi
  rw [run_slice_l w 23 A n cap Tryd.underlying23 .i64 (m : Int) (by omega) (by omega)]
  have e : Tryd.prog.elem 23 = 9 := by kernel_rfl
  rw [e, Tryd.sizeOf9]
  simp [Result.andThen, sliced, cutA]

theorem ReadsS.drop {w : World} {A : Option Addr} {l : List ByteArray} (h : ReadsS w A l) (m cap : Nat) (hc : l.length ≤ cap) : ReadsS w (cutA A cap m) (l.drop m) := by
  by_cases hlt : m < l.length
  · rcases h with rfl | ⟨b, off, rfl, hb, hcell⟩
    · simp at hlt
    · rw [cutA, if_neg (by omega)]
      have hp : ((⟨b, off, none⟩ : Addr).add (m * 1)) = ⟨b, off + m, none⟩ := by unfold Addr.add; split <;> simp_all
      refine .inr ⟨b, off + m, by rw [Option.map_some, hp], hb, fun i hi => ?_⟩
      rw [List.length_drop] at hi
      rw [Nat.add_assoc, hcell (m + i) (by omega), getD_drop]
  · exact .inl (by rw [List.drop_eq_nil_of_le (by omega)])

def dupAt (l : List ByteArray) (i : Nat) : Bool := hasB (l.drop (i + 1)) (l.getD i ByteArray.empty)

def loopF (l : List ByteArray) : ByteArray × Bool :=
  match firstI (dupAt l) l.length with
  | some i => (l.getD i ByteArray.empty, true)
  | none => (ByteArray.empty, false)

theorem drop_nil {l : List ByteArray} {j : Nat} (h : l.length ≤ j) : l.drop j = [] := List.drop_eq_nil_of_le h

theorem Contains_drop (A : Option Addr) (ca j n : Nat) (l : List ByteArray) (x : ByteArray) (w : World) (hl : ReadsS w A (l.drop j)) (hn : n = l.length) (hs : l.length ≤ 1000000) :
    Calls Tryd.prog 21 #[.slice A (n - j) ca, .string x] w fun e w' => e = .returned (.bool (hasB (l.drop j) x)) ∧ w = w' := by
  have h := Contains_any A ca (l.drop j) x w hl (by simp; omega)
  rw [List.length_drop, ← hn] at h
  exact h

theorem Has_drop (A : Option Addr) (ca j n : Nat) (l : List ByteArray) (x : ByteArray) (w : World) (hl : ReadsS w A (l.drop j)) (hn : n = l.length) (hs : l.length ≤ 1000000) :
    Calls Tryd.prog 24 #[.slice A (n - j) ca, .string x] w fun e w' => e = .returned (.bool (hasB (l.drop j) x)) ∧ w = w' := by
  have h := Has_any A ca (l.drop j) x w hl (by simp; omega)
  rw [List.length_drop, ← hn] at h
  exact h

theorem dup_on {l : List ByteArray} {k : Nat} (H : Hid (∀ j, j < k → dupAt l j = false)) (h : dupAt l k = false) : Hid (∀ j, j < k + 1 → dupAt l j = false) := upto_on H h

theorem Loop_any (A : Option Addr) (ca : Nat) (l : List ByteArray) (w : World) (hl : ReadsS w A l) (hn : l.length ≤ 1000000) (hc : l.length ≤ ca) :
    Calls Tryd.prog 22 #[.slice A l.length ca] w fun e w' => e = .returned (.tuple #[.string (loopF l).1, .bool (loopF l).2]) ∧ Below w.heap.size w w' := by
  have HL := Lib.hid hl
  clear hl
  go_enter Tryd.func22, Tryd.ntmps22
  go_wp2_with fail
  go_loopw [8] (fun v wr => ∃ k : Nat, k ≤ l.length ∧ v = .int .i64 k ∧ Hid (∀ j, j < k → dupAt l j = false) ∧ Below w.heap.size w wr) (fun v _ => (l.length - intOf v).toNat)
  case atStart => exact ⟨0, by omega, rfl, Lib.hid (fun j hj => by omega), Below.refl _ _⟩
  case round =>
    obtain ⟨k, hk, rfl, HK, HB⟩ := hrel
    by_cases hlt : k < l.length
    · obtain ⟨b1, o1, hA, hb1, hc1⟩ := (HL.out.below HB).at hlt
      have HD := Lib.hid ((HL.out.below HB).drop (k + 1) ca hc)
      subst hA
      have i1 : (k : Int) < (l.length : Int) := by omega
      have hsl := slice_from23 (some ⟨b1, o1, none⟩) l.length ca (k + 1) ((k : Int) + 1) (by omega) hlt
      generalize cutA (some ⟨b1, o1, none⟩) ca (k + 1) = A' at *
      rcases ok_or (dupAt l k) with he | he
      · have hdup : Hid (hasB (l.drop (k + 1)) (l.getD k ByteArray.empty) = true) := Lib.hid he
        have hF : Hid (loopF l = (l.getD k ByteArray.empty, true)) := Lib.hid (by simp only [loopF, firstI_some (n := l.length) hlt he HK.out])
        clear he
        generalize l.getD k ByteArray.empty = x at *
        go_wp2_with fail
        refine (Contains_drop _ _ (k + 1) _ l x _ HD.out rfl hn).mono ?_
        rintro e w1 ⟨rfl, rfl⟩
        rw [hdup.out]
        go_wp2_with fail
        go_ret2
        exact ⟨by rw [hF.out]; rfl, HB⟩
      · have hdup : Hid (hasB (l.drop (k + 1)) (l.getD k ByteArray.empty) = false) := Lib.hid he
        have hR := dup_on HK he
        clear he
        generalize l.getD k ByteArray.empty = x at *
        go_wp2_with fail
        refine (Contains_drop _ _ (k + 1) _ l x _ HD.out rfl hn).mono ?_
        rintro e w1 ⟨rfl, rfl⟩
        rw [hdup.out]
        go_wp2_with fail
        go_roundw
        case rel => exact ⟨k + 1, by omega, by simp, hR, HB⟩
        case measure => simp [intOf]; omega
    · obtain rfl : k = l.length := by omega
      clear hk hlt
      have hno := Lib.hid (firstI_none HK.out)
      go_wp2_with fail
      go_ret2
      exact ⟨by simp only [loopF, hno.out]; rfl, HB⟩

theorem RLoop_any (A : Option Addr) (ca : Nat) (l : List ByteArray) (w : World) (hl : ReadsS w A l) (hn : l.length ≤ 1000000) (hc : l.length ≤ ca) :
    Calls Tryd.prog 23 #[.slice A l.length ca] w fun e w' => e = .returned (.tuple #[.string (loopF l).1, .bool (loopF l).2]) ∧ Below w.heap.size w w' := by
  have HL := Lib.hid hl
  clear hl
  go_enter Tryd.func23, Tryd.ntmps23
  go_wp2_with fail
  go_loopw [4] (fun v wr => ∃ k : Nat, k ≤ l.length ∧ v = .int .i64 k ∧ Hid (∀ j, j < k → dupAt l j = false) ∧ Below w.heap.size w wr) (fun v _ => (l.length - intOf v).toNat)
  case atStart => exact ⟨0, by omega, rfl, Lib.hid (fun j hj => by omega), Below.refl _ _⟩
  case round =>
    obtain ⟨k, hk, rfl, HK, HB⟩ := hrel
    by_cases hlt : k < l.length
    · obtain ⟨b1, o1, hA, hb1, hc1⟩ := (HL.out.below HB).at hlt
      have HD := Lib.hid ((HL.out.below HB).drop (k + 1) ca hc)
      subst hA
      have i1 : (k : Int) < (l.length : Int) := by omega
      have hsl := slice_from22 (some ⟨b1, o1, none⟩) l.length ca (k + 1) ((k : Int) + 1) (by omega) hlt
      generalize cutA (some ⟨b1, o1, none⟩) ca (k + 1) = A' at *
      rcases ok_or (dupAt l k) with he | he
      · have hdup : Hid (hasB (l.drop (k + 1)) (l.getD k ByteArray.empty) = true) := Lib.hid he
        have hF : Hid (loopF l = (l.getD k ByteArray.empty, true)) := Lib.hid (by simp only [loopF, firstI_some (n := l.length) hlt he HK.out])
        clear he
        generalize l.getD k ByteArray.empty = x at *
        go_wp2_with fail
        have HC : ∀ n, Calls Tryd.prog 24 #[.slice A' (l.length - (k + 1)) (ca - (k + 1)), .string x] (wr.drewN n) fun e w' => e = .returned (.bool (true)) ∧ w' = wr.drewN n := fun n => by
          have h := Has_drop A' (ca - (k + 1)) (k + 1) l.length l x (wr.drewN n) HD.out rfl hn
          rw [hdup.out] at h
          exact h.mono fun _ _ ⟨h1, h2⟩ => ⟨h1, h2.symm⟩
        have hwk := wraps_i64 ((k : Int) + 1) (by omega) (by omega)
        go_quiet ((go_at_call 24; exact Calls.quiet_of_same (HC _)))
        clear hwk
        go_wp2_with fail
        go_ret2
        exact ⟨by rw [hF.out]; rfl, below_drewN HB _⟩
      · have hdup : Hid (hasB (l.drop (k + 1)) (l.getD k ByteArray.empty) = false) := Lib.hid he
        have hR := dup_on HK he
        clear he
        generalize l.getD k ByteArray.empty = x at *
        go_wp2_with fail
        have HC : ∀ n, Calls Tryd.prog 24 #[.slice A' (l.length - (k + 1)) (ca - (k + 1)), .string x] (wr.drewN n) fun e w' => e = .returned (.bool (false)) ∧ w' = wr.drewN n := fun n => by
          have h := Has_drop A' (ca - (k + 1)) (k + 1) l.length l x (wr.drewN n) HD.out rfl hn
          rw [hdup.out] at h
          exact h.mono fun _ _ ⟨h1, h2⟩ => ⟨h1, h2.symm⟩
        have hwk := wraps_i64 ((k : Int) + 1) (by omega) (by omega)
        go_quiet ((go_at_call 24; exact Calls.quiet_of_same (HC _)))
        clear hwk
        go_wp2_with fail
        go_roundw
        case rel => exact ⟨k + 1, by omega, by simp, hR, below_drewN HB _⟩
        case measure => simp [intOf]; omega
    · obtain rfl : k = l.length := by omega
      clear hk hlt
      have hno := Lib.hid (firstI_none HK.out)
      go_wp2_with fail
      go_ret2
      exact ⟨by simp only [loopF, hno.out]; rfl, HB⟩

end Go.Proofs.YthkmjelibdgbcaaDoor
