/- Base64: the reference's Encode, by a walk through its text. -/
import Derived.Test.YtpooaondhpfkmaaWalkCat
namespace Go.Proofs.Ytpooaondhpfkmaa
open Go.RowKit Go.Maps

def bitOf (c j : Nat) : Nat := c / 2 ^ (7 - j) % 2

def refBit (s : St) (b : Nat) : St := if s.n + 1 = 6 then ⟨0, 0, s.o ++ [chN (2 * s.v + b)]⟩ else ⟨s.n + 1, 2 * s.v + b, s.o⟩

/-- The reference's state behind j bits of a byte. -/
def refSt (s : St) (c : Nat) : Nat → St
  | 0 => s
  | j + 1 => refBit (refSt s c j) (bitOf c j)

def OkSt (s : St) : Prop := s.n < 6 ∧ s.v < 2 ^ s.n

theorem refBit_ok {s : St} {b : Nat} (h : OkSt s) (hb : b < 2) : OkSt (refBit s b) := by
  obtain ⟨h1, h2⟩ := h
  unfold refBit
  split
  · exact ⟨by show 0 < 6; omega, by show 0 < 2 ^ 0; decide⟩
  · refine ⟨by show s.n + 1 < 6; omega, ?_⟩
    show 2 * s.v + b < 2 ^ (s.n + 1)
    rw [Nat.pow_succ]; omega

theorem bitOf_lt (c j : Nat) : bitOf c j < 2 := Nat.mod_lt _ (by decide)

theorem refSt_ok {s : St} {c : Nat} (h : OkSt s) : ∀ j, OkSt (refSt s c j)
  | 0 => h
  | j + 1 => refBit_ok (refSt_ok h j) (bitOf_lt c j)

theorem refBit_len (s : St) (b : Nat) : (refBit s b).o.length ≤ s.o.length + 1 := by
  unfold refBit
  split <;> simp

theorem refSt_len (s : St) (c : Nat) : ∀ j, (refSt s c j).o.length ≤ s.o.length + j
  | 0 => Nat.le_refl _
  | j + 1 => by
    have h1 := refSt_len s c j
    have h2 := refBit_len (refSt s c j) (bitOf c j)
    show (refBit (refSt s c j) (bitOf c j)).o.length ≤ _
    omega

theorem ok_small {s : St} (h : OkSt s) (b : Nat) (hb : b < 2) : 2 * s.v + b < 64 := by
  have h1 : 2 ^ s.n ≤ 2 ^ 5 := Nat.pow_le_pow_right (by decide) (by have := h.1; omega)
  have h2 := h.2
  have h3 : (2 : Nat) ^ 5 = 32 := by decide
  omega

theorem refSt_enc (s : St) (c : Nat) (hc : c < 256) (h : s.n = 0 ∧ s.v = 0 ∨ s.n = 2 ∧ s.v < 4 ∨ s.n = 4 ∧ s.v < 16) : refSt s c 8 = encStep s c := by
  obtain ⟨n, v, o⟩ := s
  have p7 : (2 : Nat) ^ 7 = 128 := by decide
  have p6 : (2 : Nat) ^ 6 = 64 := by decide
  have p5 : (2 : Nat) ^ 5 = 32 := by decide
  have p4 : (2 : Nat) ^ 4 = 16 := by decide
  have p3 : (2 : Nat) ^ 3 = 8 := by decide
  rcases h with ⟨h1, h2⟩ | ⟨h1, h2⟩ | ⟨h1, h2⟩
  · simp only at h1 h2
    subst h1; subst h2
    have e1 : 2 * (2 * (2 * (2 * (2 * (c / 128 % 2) + c / 64 % 2) + c / 32 % 2) + c / 16 % 2) + c / 8 % 2) + c / 4 % 2 = c / 4 := by omega
    have e2 : 2 * (c / 2 % 2) + c % 2 = c % 4 := by omega
    simp [refSt, refBit, bitOf, encStep, e1, e2]
  · simp only at h1 h2
    subst h1
    have e1 : 2 * (2 * (2 * (2 * v + c / 128 % 2) + c / 64 % 2) + c / 32 % 2) + c / 16 % 2 = (v * 256 + c) / 16 := by omega
    have e2 : 2 * (2 * (2 * (c / 8 % 2) + c / 4 % 2) + c / 2 % 2) + c % 2 = (v * 256 + c) % 16 := by omega
    simp [refSt, refBit, bitOf, encStep, e1, e2]
  · simp only at h1 h2
    subst h1
    have e1 : 2 * (2 * v + c / 128 % 2) + c / 64 % 2 = (v * 256 + c) / 64 := by omega
    have e2 : 2 * (2 * (2 * (2 * (2 * (c / 32 % 2) + c / 16 % 2) + c / 8 % 2) + c / 4 % 2) + c / 2 % 2) + c % 2 = (v * 256 + c) % 64 := by omega
    simp [refSt, refBit, bitOf, encStep, e1, e2]

theorem extract_alpha (x : Nat) (hx : x < 64) : (⟨#[65, 66, 67, 68, 69, 70, 71, 72, 73, 74, 75, 76, 77, 78, 79, 80, 81, 82, 83, 84, 85, 86, 87, 88, 89, 90, 97, 98, 99, 100, 101, 102, 103, 104, 105, 106, 107, 108, 109, 110, 111, 112, 113, 114, 115, 116, 117, 118, 119, 120, 121, 122, 48, 49, 50, 51, 52, 53, 54, 55, 56, 57, 43, 47]⟩ : ByteArray).extract x (x + 1) = strOf [chN x] := by
  have h : ∀ x : Fin 64, (⟨#[65, 66, 67, 68, 69, 70, 71, 72, 73, 74, 75, 76, 77, 78, 79, 80, 81, 82, 83, 84, 85, 86, 87, 88, 89, 90, 97, 98, 99, 100, 101, 102, 103, 104, 105, 106, 107, 108, 109, 110, 111, 112, 113, 114, 115, 116, 117, 118, 119, 120, 121, 122, 48, 49, 50, 51, 52, 53, 54, 55, 56, 57, 43, 47]⟩ : ByteArray).extract x.val (x.val + 1) = strOf [chN x.val] := by decide +kernel
  exact h ⟨x, hx⟩

theorem bit_and (c j : Nat) (hc : c < 256) : bits BinOp.and IntKind.u8 ((c : Int) / 2 ^ (7 - j)) 1 = ((bitOf c j : Nat) : Int) := by
  have h1 : ((c : Int) / 2 ^ (7 - j)) = ((c / 2 ^ (7 - j) : Nat) : Int) := by simp
  have h2 : c / 2 ^ (7 - j) < 256 := Nat.lt_of_le_of_lt (Nat.div_le_self _ _) hc
  rw [h1]
  unfold bitOf
  generalize c / 2 ^ (7 - j) = q at *
  have h := bits_mask .u8 8 (by decide) wraps_u8 1 (by decide) (q : Int) (by omega) (by
    have e : (2 : Int) ^ 8 = 256 := by decide
    rw [e]; omega)
  have e : ((2 : Int) ^ 1 - 1) = 1 := by decide
  rw [e] at h
  rw [h]
  have e2 : (2 : Int) ^ 1 = 2 := by decide
  rw [e2]
  omega

set_option maxHeartbeats 4000000 in
theorem refEncode_any (A : Option Addr) (cap : Nat) (l : List Nat) (w : World) (hr : Reads w A l) (hl : ∀ x ∈ l, x < 256) (hlen : l.length ≤ 1048576) :
    Calls Try.prog 10 #[.slice A l.length cap] w fun e w' => e = .returned (.string (strOf (encL l))) ∧ w = w' := by
  have HR := Lib.hid hr
  have HL := Lib.hid hl
  clear hr hl
  go_enter Try.func10, Try.ntmps10
  go_wp2_with fail
  go_loop [3, 4, 5, 6] (fun vo vv vh vi => ∃ i : Nat, i ≤ l.length ∧ vi = .int .i64 i ∧ vo = .string (strOf (encSt (l.take i)).o) ∧ vv = .int .i64 (encSt (l.take i)).v ∧ vh = .int .i64 (encSt (l.take i)).n) (fun _ _ _ vi => (l.length - intOf vi).toNat)
  case atStart => exact ⟨0, by omega, rfl, rfl, rfl, rfl⟩
  case round =>
    obtain ⟨i, hi, rfl, rfl, rfl, rfl⟩ := hrel
    have hinv := encSt_inv (l.take i) (fun x hx => HL.out x (List.mem_of_mem_take hx))
    by_cases hlt : i < l.length
    · obtain ⟨b, off, rfl, hb, hcell⟩ : ∃ b off, A = some ⟨b, off, none⟩ ∧ b < w.heap.size ∧ w.cell? ⟨b, off + i, none⟩ = some (.int .u8 (l.getD i 0 : Nat)) := by
        rcases HR.out with h | ⟨b, off, h1, h2, h3⟩
        · rw [h] at hlt; simp at hlt
        · exact ⟨b, off, h1, h2, h3 i hlt⟩
      have hsn : encSt (l.take (i + 1)) = encStep (encSt (l.take i)) (l.getD i 0) := by
        rw [← encSt_snoc, List.take_succ_eq_append_getElem hlt]; simp [List.getD_eq_getElem?_getD, hlt]
      have hc : l.getD i 0 < 256 := HL.out _ (by simp [List.getD_eq_getElem?_getD, hlt])
      generalize l.getD i 0 = c at *
      have hok : OkSt (encSt (l.take i)) := by
        obtain ⟨h, _⟩ := hinv
        unfold OkSt
        rcases h with ⟨h, h2⟩ | ⟨h, h2⟩ | ⟨h, h2⟩ <;> rw [h] <;> exact ⟨by decide, by first | (rw [h2]; decide) | exact h2⟩
      have hre := refSt_enc (encSt (l.take i)) c hc hinv.1
      have HSN := Lib.hid (hsn.trans hre.symm)
      clear hsn hre
      generalize encSt (l.take i) = st at *
      simp only [List.length_take] at hinv
      obtain ⟨_, hol⟩ := hinv
      have HOK := Lib.hid hok
      clear hok
      go_wp2_with fail
      go_loop [3, 4, 5, 7] (fun vo vv vh vk => ∃ j : Nat, j ≤ 8 ∧ vk = .int .i64 (7 - (j : Int)) ∧ vo = .string (strOf (refSt st c j).o) ∧ vv = .int .i64 (refSt st c j).v ∧ vh = .int .i64 (refSt st c j).n) (fun _ _ _ vk => (intOf vk + 1).toNat)
      case atStart => exact ⟨0, by omega, rfl, rfl, rfl, rfl⟩
      case round =>
        obtain ⟨j, hj, rfl, rfl, rfl, rfl⟩ := hrel
        by_cases hlt2 : j < 8
        · have e0 : refSt st c (j + 1) = refBit (refSt st c j) (bitOf c j) := rfl
          have E0 := Lib.hid e0
          clear e0
          have hok2 := refSt_ok (c := c) HOK.out j
          have hlen2 := refSt_len st c j
          have hbt := bit_and c j hc
          have hb2 := bitOf_lt c j
          have hsm := ok_small hok2 _ hb2
          generalize refSt st c j = s2 at *
          generalize bitOf c j = bt at *
          obtain ⟨n, v, o⟩ := s2
          have hn : n < 6 := hok2.1
          simp only at hsm hlen2 ⊢
          have hext := extract_alpha (2 * v + bt) hsm
          have hso : (strOf o).size ≤ 3000000 := by rw [strOf_size]; omega
          have hso1 : (strOf [chN (2 * v + bt)]).size = 1 := rfl
          have hcat : strOf o ++ strOf [chN (2 * v + bt)] = strOf (o ++ [chN (2 * v + bt)]) := strOf_append _ _
          clear hok2 hlen2
          by_cases h5 : n = 5
          · subst h5
            go_wp2_with fail
            go_round
            case rel => exact ⟨j + 1, by omega, by congr 1; omega, by rw [E0.out]; rfl, by rw [E0.out]; rfl, by rw [E0.out]; rfl⟩
            case measure => simp [intOf]; omega
          · have hn6 : (((n : Nat) : Int) + 1 == 6) = false := by simp; omega
            have hb : Hid (refBit ⟨n, v, o⟩ bt = ⟨n + 1, 2 * v + bt, o⟩) := by
              show _ = _
              unfold refBit
              rw [if_neg (by show ¬ n + 1 = 6; omega)]
            clear hext hcat hso1
            have H5 := Lib.hid h5
            clear h5
            go_wp2_with fail
            go_round
            case rel => exact ⟨j + 1, by omega, by congr 1; omega, by rw [E0.out, hb.out], by rw [E0.out, hb.out]; go_num, by rw [E0.out, hb.out]; go_num⟩
            case measure => simp [intOf]; omega
        · obtain rfl : j = 8 := by omega
          go_wp2_with fail
          go_round
          case rel => exact ⟨i + 1, by omega, by go_num, by rw [HSN.out], by rw [HSN.out], by rw [HSN.out]⟩
          case measure => simp [intOf]; omega
    · obtain rfl : i = l.length := by omega
      rw [List.take_length] at hinv
      rw [List.take_length]
      have HF := Lib.hid (encL_eq l)
      clear hlt hi
      generalize encSt l = st at *
      obtain ⟨n, v, o⟩ := st
      obtain ⟨hn, ho⟩ := hinv
      simp only at hn ho ⊢
      have hso : (strOf o).size ≤ 3000000 := by rw [strOf_size]; omega
      go_upto_if 40 with (fail)
      go_cut [3, 4, 5] (fun vo vv vh wc => ∃ f : List Nat, Hid (flush ⟨n, v, o⟩ = f) ∧ vo = .string (strOf f) ∧ f.length ≤ 3000001 ∧ w = wc)
      case first =>
        rcases hn with ⟨hn, hv⟩ | ⟨hn, hv⟩ | ⟨hn, hv⟩
        · subst hn
          go_wp2_with fail
          go_meet
          case rel => exact ⟨o, rfl, rfl, by omega, rfl⟩
        · subst hn
          have hext := extract_alpha (2 * (2 * (2 * (2 * v)))) (by omega)
          have hso1 : (strOf [chN (2 * (2 * (2 * (2 * v))))]).size = 1 := rfl
          have hcat : strOf o ++ strOf [chN (2 * (2 * (2 * (2 * v))))] = strOf (o ++ [chN (2 * (2 * (2 * (2 * v))))]) := strOf_append _ _
          go_wp2_with fail
          refine wp_loop_rounds 5 ?_
          rw [rounds_succ]
          go_wp2_with fail
          rw [rounds_succ]
          go_wp2_with fail
          rw [rounds_succ]
          go_wp2_with fail
          rw [rounds_succ]
          go_wp2_with fail
          rw [rounds_succ]
          go_wp2_with fail
          go_meet
          case rel => exact ⟨o ++ [chN (v * 16)], rfl, by rw [show 2 * (2 * (2 * (2 * v))) = v * 16 from by omega], by simp; omega, rfl⟩
        · subst hn
          have hext := extract_alpha (2 * (2 * v)) (by omega)
          have hso1 : (strOf [chN (2 * (2 * v))]).size = 1 := rfl
          have hcat : strOf o ++ strOf [chN (2 * (2 * v))] = strOf (o ++ [chN (2 * (2 * v))]) := strOf_append _ _
          go_wp2_with fail
          refine wp_loop_rounds 3 ?_
          rw [rounds_succ]
          go_wp2_with fail
          rw [rounds_succ]
          go_wp2_with fail
          rw [rounds_succ]
          go_wp2_with fail
          go_meet
          case rel => exact ⟨o ++ [chN (v * 4)], rfl, by rw [show 2 * (2 * v) = v * 4 from by omega], by simp; omega, rfl⟩
      case rest =>
        obtain ⟨f, hf, rfl, hfl, rfl⟩ := hcut
        have HE : Hid (encL l = padN f) := by show _ = _; rw [HF.out, hf.out]
        clear hn ho hso hf HF HR
        go_wp2_with fail
        go_loopg [3] ((4 - f.length % 4) % 4) (fun g vo wx => w = wx ∧ ∃ j : Nat, Hid (g + j = (4 - f.length % 4) % 4) ∧ vo = .string (strOf (f ++ List.replicate j 61)))
        case atStart => exact ⟨rfl, 0, rfl, by simp⟩
        case round =>
          obtain ⟨rfl, j, hj, rfl⟩ := hrel
          have hlen2 : (strOf (f ++ List.replicate j 61)).size = f.length + j := by rw [strOf_size]; simp
          have HS : Hid (strOf (f ++ List.replicate j 61) ++ (⟨#[61]⟩ : ByteArray) = strOf (f ++ List.replicate (j + 1) 61)) := by
            show _ = _
            rw [show (⟨#[61]⟩ : ByteArray) = strOf [61] from rfl, strOf_append, List.replicate_succ', List.append_assoc]
          have HC : Hid (gk = 0 → strOf (f ++ List.replicate j 61) = strOf (encL l)) := by
            intro h0
            have := hj.out
            rw [HE.out, padN]
            congr 3
            omega
          generalize strOf (f ++ List.replicate j 61) = s at *
          by_cases hg : gk = 0
          · have ht : (((s.size : Nat) : Int) % 4 != 0) = false := by
              have := hj.out
              rw [hlen2]; simp; omega
            have hs := Lib.hid (HC.out hg)
            clear hj HS HC hg hlen2
            go_wp2_with fail
            go_ret
            exact ⟨by rw [← hs.out]; rfl, rfl⟩
          · have ht : (((s.size : Nat) : Int) % 4 != 0) = true := by
              have := hj.out
              rw [hlen2]; simp; omega
            have hl3 : s.size ≤ 3000010 := by have := hj.out; omega
            have hj2 : Hid (gk - 1 + (j + 1) = (4 - f.length % 4) % 4) := by have := hj.out; show _ = _; omega
            clear hj HC hlen2
            go_wp2_with fail
            go_roundg (gk - 1)
            case measure => omega
            case rel => exact ⟨rfl, j + 1, hj2, by rw [← HS.out]⟩
end Go.Proofs.Ytpooaondhpfkmaa
