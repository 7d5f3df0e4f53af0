/- Base64: the law on canonical texts, by a walk through its text. -/
import Derived.Test.YtpooaondhpfkmaaWalkRT
namespace Go.Proofs.Ytpooaondhpfkmaa
open Go.RowKit Go.Maps

theorem decodeL_err (l : List Nat) (h : (decodeL l).2.2 ≠ 0) : (decodeL l).1 = [] := by
  unfold decodeL at h ⊢
  split
  · rfl
  · rename_i hb
    rw [if_neg hb] at h
    unfold finD at h ⊢
    split
    · rfl
    · rename_i h4
      rw [if_neg h4] at h
      split
      · rfl
      · rename_i hv
        rw [if_neg hv] at h
        exact absurd rfl h

theorem decodeL_lt (l : List Nat) : ∀ x ∈ (decodeL l).1, x < 256 := by
  unfold decodeL
  split
  · intro x hx; simp at hx
  · unfold finD
    split
    · intro x hx; simp at hx
    · split
      · intro x hx; simp at hx
      · exact decSt_lt _ (posL_lt _)

theorem decodeL_length (l : List Nat) : (decodeL l).1.length ≤ l.length := by
  unfold decodeL
  split
  · simp
  · unfold finD
    split
    · simp
    · split
      · simp
      · have h := (decSt_inv (posL (l.take (vlen l))) (posL_lt _)).2
        rw [posL_length, List.length_take] at h
        show (decSt (posL (l.take (vlen l)))).o.length ≤ _
        omega

set_option maxHeartbeats 1000000 in
theorem canonical_walk (s : ByteArray) (w : World) :
    Calls Try.prog 4 #[.string s] w fun e w' => e = .returned (.bool true) ∧ Below w.heap.size w w' := by
  by_cases h : s.size ≤ 4000
  · have hd : decide ((4000 : Int) < (s.size : Int)) = false := decide_eq_false (by omega)
    have hlen := decodeL_length (chars s)
    rw [chars_length] at hlen
    have HLT := Lib.hid (decodeL_lt (chars s))
    have HERR := Lib.hid (decodeL_err (chars s))
    have HENC := Lib.hid (encL_decodeL (chars s))
    have HS := Lib.hid (strOf_chars s)
    go_enter Try.func4, Try.ntmps4
    go_wp2_with fail
    refine (known_any _).mono ?_
    rintro e w1 ⟨rfl, b1⟩
    go_wp2_with fail
    refine (decode_any s _ (by omega)).mono ?_
    rintro e w2 ⟨A, cap, rfl, hr, b2⟩
    have B2 : Below w.heap.size w w2 := b1.trans (b2.mono b1.size)
    have HR := Lib.hid hr
    clear b1 b2 hr
    by_cases he : (decodeL (chars s)).2.2 = 0
    · have hbn : ((((decodeL (chars s)).2.2 : Nat) : Int) != 0) = false := by rw [he]; rfl
      have henc := HENC.out he
      generalize decodeL (chars s) = d at *
      have HEN := Lib.hid henc
      have HE := Lib.hid he
      clear henc he
      go_wp2_with fail
      refine (Encode_any A cap d.1 _ HR.out HLT.out (by omega)).mono ?_
      rintro e w3 ⟨rfl, b3⟩
      rw [HEN.out, HS.out]
      have heq : (s.toList == s.toList) = true := by simp
      go_wp2_with fail
      go_ret
      exact ⟨rfl, B2.trans (b3.mono B2.size)⟩
    · have hbn : ((((decodeL (chars s)).2.2 : Nat) : Int) != 0) = true := by simp; omega
      have hnil := HERR.out he
      have hl0 : ((((decodeL (chars s)).1.length : Nat) : Int) == 0) = true := by rw [hnil]; rfl
      generalize decodeL (chars s) = d at *
      have HE := Lib.hid he
      clear hnil he
      go_wp2_with fail
      go_ret
      exact ⟨rfl, B2⟩
  · have hd : decide ((4000 : Int) < (s.size : Int)) = true := decide_eq_true (by omega)
    go_enter Try.func4, Try.ntmps4
    go_wp2_with fail
    refine (known_any _).mono ?_
    rintro e w1 ⟨rfl, b1⟩
    go_wp2_with fail
    refine (known_any _).mono ?_
    rintro e w2 ⟨rfl, b2⟩
    go_wp2_with fail
    go_ret
    exact ⟨rfl, b1.trans (b2.mono b1.size)⟩
end Go.Proofs.Ytpooaondhpfkmaa
