/- Base64: Encode, Valid and known, by a walk through their text. -/
import Derived.Test.YtpooaondhpfkmaaDoorDec
import Derived.Test.YtpooaondhpfkmaaDoorMath
import Derived.Laws.BytesArg
import Derived.Lib.SlBytesConst
namespace Go.Proofs.YtpooaondhpfkmaaDoor
open Go.RowKit Go.Maps

theorem Encode_any (A : Option Addr) (cap : Nat) (l : List Nat) (w : World) (hr : Reads w A l) (hl : ∀ x ∈ l, x < 256) (hlen : l.length ≤ 131072) :
    Calls Tryd.prog 7 #[.slice A l.length cap] w fun e w' => e = .returned (.tuple #[.string (strOf (encL l)), .int .i64 0]) ∧ Below w.heap.size w w' := by
  have hd : decide ((131072 : Int) < (l.length : Int)) = false := decide_eq_false (by omega)
  have HL := Lib.hid hl
  clear hl
  go_enter Tryd.func7, Tryd.ntmps7
  go_wp2_with fail
  refine (encode_any A cap l w hr HL.out (by omega)).mono ?_
  rintro e w1 ⟨rfl, b1⟩
  go_wp2_with fail
  go_ret2
  exact ⟨rfl, b1⟩

theorem conv_reads {w : World} {A : Option Addr} {l : List Nat} (h : Reads w A l) (cap : Nat) : (convert 31 9 (.slice A l.length cap)).run Tryd.prog w = .ok (.string (strOf l)) w := by
  rcases h with rfl | ⟨b, off, rfl, hb, hc⟩
  · cases A with
    | none => exact run_convert_bytes_nil w 31 5 Tryd.underlying31 Tryd.underlying5 0 cap 9 Tryd.underlying9
    | some a =>
      rw [run_convert_bytes_string w 31 9 5 _ _ cap Tryd.underlying31 Tryd.underlying5 Tryd.underlying9, run_bytesToString w _ _ cap [] (by rfl)]
      rfl
  · have h := run_convert_bytes_arg w 31 5 Tryd.underlying31 Tryd.underlying5 b off l.length cap (cast l) (by simp [cast]) (fun i hi => by
      rw [hc i hi]; simp [cast, List.getD_eq_getElem?_getD, hi]) 9 Tryd.underlying9
    rw [h]
    simp [strOfNums, strOf, cast, List.map_map, Function.comp_def]

theorem toList_strOf (l : List Nat) : (strOf l).toList = l.map UInt8.ofNat := ByteArray.toList_mk _

theorem reads_new (w : World) (l : List Nat) (t : TypeId) (fr : Nat × Nat) : Reads (w.alloc (.cells (vals l).toArray t fr)) (some ⟨w.heap.size, 0, none⟩) l := by
  refine .inr ⟨_, 0, rfl, by simp, fun i hi => ?_⟩
  have h := heap_alloc_new w (.cells (vals l).toArray t fr)
  unfold World.cell?
  simp only [h, Nat.zero_add]
  simp [vals, cast, hi]

theorem encL_fo : encL [102, 111] = [90, 109, 56, 61] := by decide
theorem decL_Zg : decodeL [90, 103, 61, 61] = ([102], 0, 0) := by decide

theorem known_any (w : World) : Calls Tryd.prog 4 #[] w fun e w' => e = .returned (.bool true) ∧ Below w.heap.size w w' := by
  have kc := fun (w : World) (C : Array Value) (n c : Nat) => Lib.run_convert_bytes_const (P := Tryd.prog) w 31 5 C n c Tryd.underlying31 Tryd.underlying5
  have k1 : ((strOf [90, 109, 56, 61]).toList == [90, 109, 56, 61]) = true := by rw [toList_strOf]; decide
  have k2 : ((strOf [102]).toList == [102]) = true := by rw [toList_strOf]; decide
  have hch : chars ⟨#[90, 103, 61, 61]⟩ = [90, 103, 61, 61] := rfl
  have HCH := Lib.hid hch
  have hr := reads_new w [102, 111] 5 (2, 3)
  have HR := Lib.hid hr
  clear hch hr
  go_enter Tryd.func4, Tryd.ntmps4
  go_wp2_with fail
  refine (Encode_any (some ⟨w.heap.size, 0, none⟩) 2 [102, 111] _ HR.out (by decide) (by decide)).mono ?_
  rintro e w1 ⟨rfl, b1⟩
  rw [encL_fo]
  clear HR
  have B1 : Below w.heap.size w w1 := ((Below.refl _ _).alloc (Nat.le_refl _) _).trans (b1.mono (by simp))
  clear b1
  go_wp2_with fail
  refine (decode_any _ _ (by decide)).mono ?_
  rintro e w2 ⟨A, cap, rfl, hr, b2⟩
  rw [HCH.out, decL_Zg] at hr ⊢
  have hc := conv_reads hr cap
  have B2 := B1.trans (b2.mono B1.size)
  clear hr b2 B1
  simp only [List.length_cons, List.length_nil, Nat.zero_add] at hc ⊢
  go_wp2_with fail
  go_ret
  exact ⟨rfl, B2⟩
end Go.Proofs.YtpooaondhpfkmaaDoor
