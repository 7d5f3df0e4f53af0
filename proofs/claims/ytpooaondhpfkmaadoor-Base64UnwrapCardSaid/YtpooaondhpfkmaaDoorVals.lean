/- Base64: the map of the characters' values, by a walk through values(). -/
import Derived.Test.YtpooaondhpfkmaaDoorAlpha
import Derived.Test.YtpooaondhpfkmaaDoorEncode
import Derived.Test.YtpooaondhpfkmaaDoorPlainD
import Derived.Maps.Own
import Derived.Maps.OwnOps
import Derived.Maps.OwnSet
import Derived.Maps.Views
namespace Go.Proofs.YtpooaondhpfkmaaDoor
open Go.RowKit Go.Maps

theorem law5 : Keyed Tryd.prog 5 := int_keyed Tryd.underlying5
theorem zero3 (w : World) : (zeroValue 3).run Tryd.prog w = .ok (.int .i64 0) w := by kernel_rfl
theorem make41 (w : World) : (Instr.makeMap 39 (some (.int .i64 64))).run Tryd.prog w = .ok (.map (some w.heap.size)) (w.alloc (.map #[] 0)) := by kernel_rfl

theorem alphaL_get (k : Nat) (hk : k < 64) : (alphaL.map (Value.int .u8)).toArray[k]? = some (.int .u8 (chN k : Nat)) := by
  have hl : alphaL.length = 64 := by rw [alphaL_eq]; rfl
  have h := ch_eq k
  unfold ch at h
  rw [List.getD_eq_getElem?_getD, List.getElem?_eq_getElem (by omega)] at h
  simp only [Option.getD_some] at h
  simp [hl, hk, h]

theorem index48 (k : Nat) (hk : k < 64) (w : World) : (Instr.index 54 (.agg (alphaL.map (Value.int .u8)).toArray) (.int .i64 k)).run Tryd.prog w = .ok (.int .u8 (chN k : Nat)) w := by
  have hn : (0 ≤ (k : Int) ∧ (k : Int) < 64) := by omega
  have hg := alphaL_get k hk
  generalize (alphaL.map (Value.int .u8)).toArray = cs at *
  simp [Instr.index, run_underlying Tryd.underlying54, asIntOf, hn, go_sem, hk, hg]

/-- The map after n of its entries. -/
def valMap : Nat → DataW Unit
  | 0 => .map []
  | n + 1 => (valMap n).put (.int .u8 (chN n : Nat)) (.lit (.int .i64 n))

set_option maxHeartbeats 1000000 in
theorem values_any (w : World) : Calls Tryd.prog 13 #[] w fun e w' => ∃ b, e = .returned (.map (some b)) ∧ w'.ownsMap Tryd.prog 5 (plainElem Tryd.prog 3) b 64 (valMap 64) ∧ w.heap.size ≤ b ∧ Below w.heap.size w w' := by
  have hmm := make41
  go_enter Tryd.func13, Tryd.ntmps13
  go_wp2_with fail
  refine (alpha_any _).mono ?_
  rintro e w1 ⟨rfl, b1⟩
  have hm0 : w1.ownsMap Tryd.prog 5 (plainElem Tryd.prog 3) w.heap.size 0 (valMap 0) := by
    obtain ⟨es, clock, h1, h2⟩ := World.ownsMap_made (H := Unit) w Tryd.prog 5 (plainElem Tryd.prog 3)
    exact ⟨es, clock, (b1.block _ (by simp)).trans h1, h2⟩
  have B1 : Below w.heap.size w w1 := ((Below.refl _ _).alloc (Nat.le_refl _) _).trans (b1.mono (by simp))
  clear b1
  go_wp2_with fail
  go_loopw [6] (fun v wr => ∃ k : Nat, k ≤ 64 ∧ v = .int .i64 k ∧ wr.ownsMap Tryd.prog 5 (plainElem Tryd.prog 3) w.heap.size k (valMap k) ∧ Below w.heap.size w wr) (fun v _ => (64 - intOf v).toNat)
  case atStart => exact ⟨0, by omega, rfl, hm0, B1⟩
  case round =>
    clear hm0 B1
    obtain ⟨k, hk, rfl, hown, HB⟩ := hrel
    by_cases hlt : k < 64
    · have hix := index48 k hlt
      have hcl := chN_lt k
      have hkey : keyOf Tryd.prog 5 (.int .u8 (chN k : Nat)) = some (.int .u8 (chN k : Nat)) := keyOf_int_mk Tryd.underlying5 (by simp [Lit.wf, IntKind.min, IntKind.max, IntKind.signed, IntKind.bits]; omega)
      have hkw : (Lit.int .i64 (k : Int)).wf = true := by simp [Lit.wf, IntKind.min, IntKind.max, IntKind.signed, IntKind.bits]; omega
      have HKW := Lib.hid hkw
      have HKEY := Lib.hid hkey
      clear hkw hkey
      go_wp2_with (at_mapUpdate; refine wpList_mapUpdate_own _ rfl _ _ _ 39 rfl 5 3 law5 Tryd.underlying39 _ w.heap.size k _ rfl hown (by unfold maxLen; omega) _ _ _ rfl rfl HKEY.out _ [] (plainElem_int Tryd.underlying3 HKW.out) ?_; intro w2 hown1 hgrow1)
      go_roundw
      case rel => exact ⟨k + 1, by omega, by go_num, hown1, HB.grown hgrow1 HB.size (fun j hj => by cases hj; exact Nat.le_refl _)⟩
      case measure => simp [intOf]; omega
    · obtain rfl : k = 64 := by omega
      go_wp2_with fail
      go_ret
      exact ⟨w.heap.size, rfl, hown, Nat.le_refl _, HB⟩

theorem isMap_valMap : ∀ n, IsMap (valMap n)
  | 0 => ⟨_, rfl⟩
  | n + 1 => by
    obtain ⟨es, h⟩ := isMap_valMap n
    rw [valMap, h]
    exact ⟨_, rfl⟩

theorem key_ne {a b : Nat} (h : a ≠ b) : (Lit.int .u8 (a : Int)) ≠ .int .u8 (b : Int) := by
  intro e
  simp only [Lit.int.injEq, true_and] at e
  exact h (by omega)

theorem valMap_has (c : Nat) (n : Nat) (hn : n ≤ 64) :
    (∀ p, posN c = some p → p < n → has (valMap n) (.int .u8 c) = true ∧ ∀ z, (valMap n).atKey (.int .u8 c) z = .lit (.int .i64 p)) ∧
    ((∀ p, p < n → chN p ≠ c) → has (valMap n) (.int .u8 c) = false) := by
  induction n with
  | zero => exact ⟨fun p _ h => by omega, fun _ => rfl⟩
  | succ n ih =>
    obtain ⟨i1, i2⟩ := ih (by omega)
    constructor
    · intro p hp hlt
      by_cases e : p = n
      · subst e
        rw [valMap, (posN_some hp).2]
        exact ⟨has_put_same (isMap_valMap _) (by simp [WideAt.IsKeyLit]) _, fun z => atKey_put_same (isMap_valMap _) (by simp [WideAt.IsKeyLit]) _ _⟩
      · have h := i1 p hp (by omega)
        have hne : c ≠ chN n := by
          intro e2
          rw [e2, posN_chN n (by omega)] at hp
          exact e (Option.some.inj hp).symm
        rw [valMap, has_put_other (key_ne hne)]
        refine ⟨h.1, fun z => ?_⟩
        rw [atKey_put_other (key_ne hne)]
        exact h.2 z
    · intro h
      rw [valMap, has_put_other (key_ne (Ne.symm (h n (by omega))))]
      exact i2 fun p hp => h p (by omega)

end Go.Proofs.YtpooaondhpfkmaaDoor
