/- Base64: the law on Encode and its reference, by a walk through its text. -/
import Derived.Test.YtpooaondhpfkmaaRef
namespace Go.Proofs.Ytpooaondhpfkmaa
open Go.RowKit Go.Maps

set_option maxHeartbeats 1000000 in
theorem encode_walk (A : Option Addr) (cap : Nat) (l : List Nat) (n : Int) (w : World) (hr : Reads w A l) (hl : ∀ x ∈ l, x < 256) :
    Calls Try.prog 3 #[.slice A l.length cap, .int .i64 n] w fun e w' => e = .returned (.bool true) ∧ Below w.heap.size w w' := by
  have HR := Lib.hid hr
  have HL := Lib.hid hl
  clear hr hl
  by_cases h : l.length ≤ 600
  · have hd : decide ((600 : Int) < (l.length : Int)) = false := decide_eq_false (by omega)
    have hlen4 : (encL l).length = (l.length + 2) / 3 * 4 := by rw [encL_encG l HL.out]; exact encG_length l
    have hsz : (strOf (encL l)).size = (l.length + 2) / 3 * 4 := by rw [strOf_size, hlen4]
    have hsF : sizeF (l.length : Int) = (((l.length + 2) / 3 * 4 : Nat) : Int) := by
      unfold sizeF
      rw [if_neg (by omega), if_neg (by omega)]
      omega
    have hq : (sizeF (l.length : Int) == ((strOf (encL l)).size : Int)) = true := by rw [hsF, hsz]; simp
    have hq2 : (sizeF n == sizeF n) = true := by simp
    have hss : ((strOf (encL l)).toList == (strOf (encL l)).toList) = true := by simp
    clear hlen4 hsz hsF
    go_enter Try.func3, Try.ntmps3
    go_wp2_with fail
    refine (known_any _).mono ?_
    rintro e w1 ⟨rfl, b1⟩
    go_wp2_with fail
    refine (Encode_any A cap l _ (HR.out.below b1) HL.out (by omega)).mono ?_
    rintro e w2 ⟨rfl, b2⟩
    have B2 : Below w.heap.size w w2 := b1.trans (b2.mono b1.size)
    clear b1 b2
    go_wp2_with fail
    refine (refEncode_any A cap l _ (HR.out.below B2) HL.out (by omega)).mono ?_
    rintro e w3 ⟨rfl, rfl⟩
    generalize strOf (encL l) = s at *
    go_wp2_with fail
    refine (size_any _ _).mono ?_
    rintro e w3 ⟨rfl, rfl⟩
    generalize sizeF (l.length : Int) = q1 at *
    go_wp2_with fail
    refine (size_any _ _).mono ?_
    rintro e w3 ⟨rfl, rfl⟩
    go_wp2_with fail
    refine (rsize_any _ _).mono ?_
    rintro e w3 ⟨rfl, rfl⟩
    generalize sizeF n = q2 at *
    go_wp2_with fail
    go_ret
    exact ⟨rfl, B2⟩
  · have hd : decide ((600 : Int) < (l.length : Int)) = true := decide_eq_true (by omega)
    go_enter Try.func3, Try.ntmps3
    go_wp2_with fail
    refine (known_any _).mono ?_
    rintro e w1 ⟨rfl, b1⟩
    go_wp2_with fail
    refine (known_any _).mono ?_
    rintro e w2 ⟨rfl, b2⟩
    go_wp2_with fail
    go_ret
    exact ⟨rfl, b1.trans (b2.mono b1.size)⟩
end Go.Proofs.Ytpooaondhpfkmaa
