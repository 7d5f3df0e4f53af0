/- Base64 over lists of numbers: encoding by groups of three, decoding by groups of four, each the other's inverse. No program in sight. -/
import Derived.Test.YtpooaondhpfkmaaDoorPlainD
namespace Go.Proofs.YtpooaondhpfkmaaDoor

/-- The encoding, group by group. -/
def encG : List Nat → List Nat
  | a :: b :: c :: r => chN (a / 4) :: chN (a % 4 * 16 + b / 16) :: chN (b % 16 * 4 + c / 64) :: chN (c % 64) :: encG r
  | [a, b] => [chN (a / 4), chN (a % 4 * 16 + b / 16), chN (b % 16 * 4), 61]
  | [a] => [chN (a / 4), chN (a % 4 * 16), 61, 61]
  | [] => []

set_option maxRecDepth 100000 in
theorem fold_enc : ∀ (l : List Nat) (o : List Nat), (∀ x ∈ l, x < 256) → o.length % 4 = 0 → padN (flush (l.foldl encStep ⟨0, 0, o⟩)) = o ++ encG l
  | a :: b :: c :: r, o, h, ho => by
    have ha : a < 256 := h a (by simp)
    have hb : b < 256 := h b (by simp)
    have hc : c < 256 := h c (by simp)
    have hr : ∀ x ∈ r, x < 256 := fun x hx => h x (by simp [hx])
    have e : (a :: b :: c :: r).foldl encStep ⟨0, 0, o⟩ = r.foldl encStep ⟨0, 0, o ++ [chN (a / 4), chN (a % 4 * 16 + b / 16), chN (b % 16 * 4 + c / 64), chN (c % 64)]⟩ := by
      have e1 : (a % 4 * 256 + b) / 16 = a % 4 * 16 + b / 16 := by omega
      have e2 : (a % 4 * 256 + b) % 16 = b % 16 := by omega
      have e3 : (b % 16 * 256 + c) / 64 = b % 16 * 4 + c / 64 := by omega
      have e4 : (b % 16 * 256 + c) % 64 = c % 64 := by omega
      simp [encStep, e1, e2, e3, e4]
    rw [e, fold_enc r (o ++ [chN (a / 4), chN (a % 4 * 16 + b / 16), chN (b % 16 * 4 + c / 64), chN (c % 64)]) hr (by simp only [List.length_append, List.length_cons, List.length_nil]; omega), encG, List.append_assoc]
    rfl
  | [a, b], o, h, ho => by
    have ha : a < 256 := h a (by simp)
    have hb : b < 256 := h b (by simp)
    have e1 : (a % 4 * 256 + b) / 16 = a % 4 * 16 + b / 16 := by omega
    have e2 : (a % 4 * 256 + b) % 16 = b % 16 := by omega
    have e3 : (4 - (o.length + 3) % 4) % 4 = 1 := by omega
    simp [encStep, e1, e2, flush, padN, encG, e3]
  | [a], o, h, ho => by
    have ha : a < 256 := h a (by simp)
    have e3 : (4 - (o.length + 2) % 4) % 4 = 2 := by omega
    simp [encStep, flush, padN, encG, e3]
  | [], o, _, ho => by
    have e3 : (4 - o.length % 4) % 4 = 0 := by omega
    simp [flush, padN, encG, e3]

theorem encL_encG (l : List Nat) (h : ∀ x ∈ l, x < 256) : encL l = encG l := fold_enc l [] h rfl

theorem encG_length : ∀ l : List Nat, (encG l).length = (l.length + 2) / 3 * 4
  | a :: b :: c :: r => by simp [encG, encG_length r]; omega
  | [a, b] => by simp [encG]
  | [a] => by simp [encG]
  | [] => rfl

theorem encG_append : ∀ (a b : List Nat), a.length % 3 = 0 → encG (a ++ b) = encG a ++ encG b
  | x :: y :: z :: r, b, h => by
    have := encG_append r b (by simp at h; omega)
    simp [encG, this]
  | [x, y], b, h => by simp at h
  | [x], b, h => by simp at h
  | [], b, _ => by simp [encG]

/-! ### decoding -/

/-- The bytes of positions. -/
def decG : List Nat → List Nat
  | p :: q :: r :: s :: t => (p * 4 + q / 16) :: (q % 16 * 16 + r / 4) :: (r % 4 * 64 + s) :: decG t
  | [p, q, r] => [p * 4 + q / 16, q % 16 * 16 + r / 4]
  | [p, q] => [p * 4 + q / 16]
  | [_] => []
  | [] => []

/-- The bits that are left. -/
def decV : List Nat → Nat
  | _ :: _ :: _ :: _ :: t => decV t
  | [_, _, r] => r % 4
  | [_, q] => q % 16
  | [p] => p
  | [] => 0

theorem fold_dec : ∀ (l : List Nat) (o : List Nat), (∀ x ∈ l, x < 64) → (l.foldl decStep ⟨0, 0, o⟩).o = o ++ decG l ∧ (l.foldl decStep ⟨0, 0, o⟩).v = decV l
  | p :: q :: r :: s :: t, o, h => by
    have hp : p < 64 := h p (by simp)
    have hq : q < 64 := h q (by simp)
    have hr : r < 64 := h r (by simp)
    have hs : s < 64 := h s (by simp)
    have e : (p :: q :: r :: s :: t).foldl decStep ⟨0, 0, o⟩ = t.foldl decStep ⟨0, 0, o ++ [p * 4 + q / 16, q % 16 * 16 + r / 4, r % 4 * 64 + s]⟩ := by
      have e1 : (p * 64 + q) / 16 = p * 4 + q / 16 := by omega
      have e2 : (p * 64 + q) % 16 = q % 16 := by omega
      have e3 : (q % 16 * 64 + r) / 4 = q % 16 * 16 + r / 4 := by omega
      have e4 : (q % 16 * 64 + r) % 4 = r % 4 := by omega
      simp [decStep, e1, e2, e3, e4]
    rw [e]
    obtain ⟨h1, h2⟩ := fold_dec t (o ++ [p * 4 + q / 16, q % 16 * 16 + r / 4, r % 4 * 64 + s]) (fun x hx => h x (by simp [hx]))
    rw [h1, h2]
    simp [decG, decV]
  | [p, q, r], o, h => by
    have hp : p < 64 := h p (by simp)
    have hq : q < 64 := h q (by simp)
    have hr : r < 64 := h r (by simp)
    have e1 : (p * 64 + q) / 16 = p * 4 + q / 16 := by omega
    have e2 : (p * 64 + q) % 16 = q % 16 := by omega
    have e3 : (q % 16 * 64 + r) / 4 = q % 16 * 16 + r / 4 := by omega
    have e4 : (q % 16 * 64 + r) % 4 = r % 4 := by omega
    simp [decStep, e1, e2, e3, e4, decG, decV]
  | [p, q], o, h => by
    have hp : p < 64 := h p (by simp)
    have hq : q < 64 := h q (by simp)
    have e1 : (p * 64 + q) / 16 = p * 4 + q / 16 := by omega
    have e2 : (p * 64 + q) % 16 = q % 16 := by omega
    simp [decStep, e1, e2, decG, decV]
  | [p], o, h => by simp [decStep, decG, decV]
  | [], o, _ => by simp [decG, decV]

theorem decSt_o (l : List Nat) (h : ∀ x ∈ l, x < 64) : (decSt l).o = decG l := by
  have := (fold_dec l [] h).1
  simpa [decSt] using this
theorem decSt_v (l : List Nat) (h : ∀ x ∈ l, x < 64) : (decSt l).v = decV l := (fold_dec l [] h).2

/-- Bytes out of positions whose last bits are zero are encoded as these positions. -/
theorem encG_decG : ∀ (l : List Nat), (∀ x ∈ l, x < 64) → decV l = 0 → l.length % 4 ≠ 1 → encG (decG l) = l.map chN ++ List.replicate ((4 - l.length % 4) % 4) 61
  | p :: q :: r :: s :: t, h, hv, hl => by
    have hp : p < 64 := h p (by simp)
    have hq : q < 64 := h q (by simp)
    have hr : r < 64 := h r (by simp)
    have hs : s < 64 := h s (by simp)
    have ih := encG_decG t (fun x hx => h x (by simp [hx])) hv (by simp at hl; omega)
    have e1 : (p * 4 + q / 16) / 4 = p := by omega
    have e2 : (p * 4 + q / 16) % 4 * 16 + (q % 16 * 16 + r / 4) / 16 = q := by omega
    have e3 : (q % 16 * 16 + r / 4) % 16 * 4 + (r % 4 * 64 + s) / 64 = r := by omega
    have e4 : (r % 4 * 64 + s) % 64 = s := by omega
    have e5 : (4 - (t.length + 4) % 4) % 4 = (4 - t.length % 4) % 4 := by omega
    simp only [decG, encG, ih, e1, e2, e3, e4, List.map_cons, List.length_cons, List.cons_append]
    rw [show t.length + 1 + 1 + 1 + 1 = t.length + 4 from rfl, e5]
  | [p, q, r], h, hv, hl => by
    have hp : p < 64 := h p (by simp)
    have hq : q < 64 := h q (by simp)
    have hr : r < 64 := h r (by simp)
    have hv' : r % 4 = 0 := hv
    have e1 : (p * 4 + q / 16) / 4 = p := by omega
    have e2 : (p * 4 + q / 16) % 4 * 16 + (q % 16 * 16 + r / 4) / 16 = q := by omega
    have e3 : (q % 16 * 16 + r / 4) % 16 * 4 = r := by omega
    simp only [decG, encG, e1, e2, e3]
    rfl
  | [p, q], h, hv, hl => by
    have hp : p < 64 := h p (by simp)
    have hq : q < 64 := h q (by simp)
    have hv' : q % 16 = 0 := hv
    have e1 : (p * 4 + q / 16) / 4 = p := by omega
    have e2 : (p * 4 + q / 16) % 4 * 16 = q := by omega
    simp only [decG, encG, e1, e2]
    rfl
  | [p], h, hv, hl => by simp at hl
  | [], _, _, _ => by simp [decG, encG]

theorem posL_map (l : List Nat) (h : ∀ c ∈ l, okC c = true) : (posL l).map chN = l := by
  unfold posL
  rw [List.map_map]
  conv => rhs; rw [← List.map_id l]
  refine List.map_congr_left fun c hc => ?_
  have := h c hc
  unfold okC at this
  obtain ⟨p, hp⟩ := Option.isSome_iff_exists.1 this
  simp [Function.comp, hp, (posN_some hp).2]

theorem posL_length (l : List Nat) : (posL l).length = l.length := by simp [posL]

theorem mem_takeWhile : ∀ (l : List Nat) {c : Nat}, c ∈ l.takeWhile okC → okC c = true
  | [], c, h => by simp at h
  | x :: l, c, h => by
    rw [List.takeWhile_cons] at h
    split at h
    · rcases List.mem_cons.1 h with rfl | h
      · assumption
      · exact mem_takeWhile l h
    · simp at h

theorem take_vlen (l : List Nat) : ∀ c ∈ l.take (vlen l), okC c = true := by
  intro c hc
  have e : l.take (vlen l) = l.takeWhile okC := by
    unfold vlen
    conv => lhs; rw [← List.takeWhile_append_dropWhile (p := okC) (l := l)]
    rw [List.takeWhile_append_dropWhile]
    have := List.takeWhile_append_dropWhile (p := okC) (l := l)
    conv => lhs; arg 2; rw [← this]
    rw [List.take_left]
  rw [e] at hc
  exact mem_takeWhile l hc

theorem vlen_le (l : List Nat) : vlen l ≤ l.length := by
  have h := congrArg List.length (List.takeWhile_append_dropWhile (p := okC) (l := l))
  rw [List.length_append] at h
  unfold vlen
  omega

theorem eq_take_pad1 {l : List Nat} {k : Nat} (h1 : k + 1 = l.length) (h2 : l.getD k 0 = 61) : l = l.take k ++ [61] := by
  conv => lhs; rw [← List.take_append_drop k l]
  congr 1
  rw [List.drop_eq_getElem_cons (by omega), List.drop_eq_nil_of_le (by omega)]
  rw [List.getD_eq_getElem?_getD, List.getElem?_eq_getElem (by omega)] at h2
  simpa using h2

theorem eq_take_pad2 {l : List Nat} {k : Nat} (h1 : k + 2 = l.length) (h2 : l.getD k 0 = 61) (h3 : l.getD (k + 1) 0 = 61) : l = l.take k ++ [61, 61] := by
  conv => lhs; rw [← List.take_append_drop k l]
  congr 1
  rw [List.drop_eq_getElem_cons (by omega), List.drop_eq_getElem_cons (by omega), List.drop_eq_nil_of_le (by omega)]
  rw [List.getD_eq_getElem?_getD, List.getElem?_eq_getElem (by omega)] at h2 h3
  simp only [Option.getD_some] at h2 h3
  rw [h2, h3]

/-- A text that is decoded is the encoding of its bytes. -/
theorem encL_decodeL (l : List Nat) (h : (decodeL l).2.2 = 0) : encL (decodeL l).1 = l := by
  unfold decodeL at h ⊢
  split at h
  · simp at h
  · rename_i hb
    rw [if_neg hb]
    unfold finD at h ⊢
    split at h
    · simp at h
    · rename_i h4
      rw [if_neg h4]
      split at h
      · simp at h
      · rename_i hv
        rw [if_neg hv]
        simp only [Decidable.not_not] at h4 hv
        have hp := posL_lt (l.take (vlen l))
        have hlt := decSt_lt _ hp
        have hmap := posL_map _ (take_vlen l)
        have hlen : (posL (l.take (vlen l))).length = vlen l := by rw [posL_length, List.length_take]; have := vlen_le l; omega
        rw [decSt_v _ hp] at hv
        rw [decSt_o _ hp] at hlt
        show encL (decSt (posL (l.take (vlen l)))).o = l
        rw [decSt_o _ hp, encL_encG _ hlt]
        have hle := vlen_le l
        by_cases hk : vlen l < l.length
        · have hb2 : l.getD (vlen l) 0 = 61 ∧ inPl l (vlen l) = true := Decidable.not_not.1 (fun x => hb ⟨hk, x⟩)
          obtain ⟨h61, hin⟩ := hb2
          simp only [inPl, h4, decide_true, Bool.true_and, Bool.or_eq_true, Bool.and_eq_true, decide_eq_true_eq] at hin
          rw [encG_decG _ hp hv (by rw [hlen]; omega), hmap, hlen]
          rcases hin with h1 | ⟨h1, h3⟩
          · have e : (4 - vlen l % 4) % 4 = 1 := by omega
            rw [e]
            exact (eq_take_pad1 h1 h61).symm
          · have e : (4 - vlen l % 4) % 4 = 2 := by omega
            rw [e]
            exact (eq_take_pad2 h1 h61 (by rw [← h3]; congr 1; omega)).symm
        · have e1 : vlen l = l.length := by omega
          rw [encG_decG _ hp hv (by rw [hlen]; omega), hmap, hlen]
          have e : (4 - vlen l % 4) % 4 = 0 := by omega
          rw [e, e1, List.take_length]
          simp

theorem okC_chN (p : Nat) (hp : p < 64) : okC (chN p) = true := by simp [okC, posN_chN p hp]
theorem posC_chN (p : Nat) (hp : p < 64) : (posN (chN p)).getD 0 = p := by simp [posN_chN p hp]
theorem okC_61 : okC 61 = false := by decide

/-- The positions of an encoding's characters. -/
def encP : List Nat → List Nat
  | a :: b :: c :: r => (a / 4) :: (a % 4 * 16 + b / 16) :: (b % 16 * 4 + c / 64) :: (c % 64) :: encP r
  | [a, b] => [a / 4, a % 4 * 16 + b / 16, b % 16 * 4]
  | [a] => [a / 4, a % 4 * 16]
  | [] => []

theorem encP_lt : ∀ (l : List Nat), (∀ x ∈ l, x < 256) → ∀ p ∈ encP l, p < 64
  | a :: b :: c :: r, h, p, hp => by
    have ha : a < 256 := h a (by simp)
    have hb : b < 256 := h b (by simp)
    have hc : c < 256 := h c (by simp)
    simp only [encP, List.mem_cons] at hp
    rcases hp with rfl | rfl | rfl | rfl | hp
    · omega
    · omega
    · omega
    · omega
    · exact encP_lt r (fun x hx => h x (by simp [hx])) p hp
  | [a, b], h, p, hp => by
    have ha : a < 256 := h a (by simp)
    have hb : b < 256 := h b (by simp)
    simp only [encP, List.mem_cons, List.not_mem_nil, or_false] at hp
    omega
  | [a], h, p, hp => by
    have ha : a < 256 := h a (by simp)
    simp only [encP, List.mem_cons, List.not_mem_nil, or_false] at hp
    omega
  | [], _, p, hp => by simp [encP] at hp

theorem encP_spec : ∀ (l : List Nat), (∀ x ∈ l, x < 256) → encG l = (encP l).map chN ++ List.replicate ((4 - (encP l).length % 4) % 4) 61 ∧ decG (encP l) = l ∧ decV (encP l) = 0 ∧ (encP l).length % 4 ≠ 1
  | a :: b :: c :: r, h => by
    have ha : a < 256 := h a (by simp)
    have hb : b < 256 := h b (by simp)
    have hc : c < 256 := h c (by simp)
    obtain ⟨h1, h2, h3, h4⟩ := encP_spec r (fun x hx => h x (by simp [hx]))
    have e1 : a / 4 * 4 + (a % 4 * 16 + b / 16) / 16 = a := by omega
    have e2 : (a % 4 * 16 + b / 16) % 16 * 16 + (b % 16 * 4 + c / 64) / 4 = b := by omega
    have e3 : (b % 16 * 4 + c / 64) % 4 * 64 + c % 64 = c := by omega
    have e5 : (4 - ((encP r).length + 4) % 4) % 4 = (4 - (encP r).length % 4) % 4 := by omega
    refine ⟨?_, ?_, h3, ?_⟩
    · simp only [encG, encP, h1, List.map_cons, List.cons_append, List.length_cons]
      rw [show (encP r).length + 1 + 1 + 1 + 1 = (encP r).length + 4 from rfl, e5]
    · simp only [encP, decG, e1, e2, e3, h2]
    · simp only [encP, List.length_cons]; omega
  | [a, b], h => by
    have ha : a < 256 := h a (by simp)
    have hb : b < 256 := h b (by simp)
    have e1 : a / 4 * 4 + (a % 4 * 16 + b / 16) / 16 = a := by omega
    have e2 : (a % 4 * 16 + b / 16) % 16 * 16 + (b % 16 * 4) / 4 = b := by omega
    refine ⟨rfl, ?_, ?_, by simp [encP]⟩
    · simp only [encP, decG, e1, e2]
    · simp only [encP, decV]; omega
  | [a], h => by
    have ha : a < 256 := h a (by simp)
    have e1 : a / 4 * 4 + (a % 4 * 16) / 16 = a := by omega
    refine ⟨rfl, ?_, ?_, by simp [encP]⟩
    · simp only [encP, decG, e1]
    · simp only [encP, decV]; omega
  | [], _ => ⟨rfl, rfl, rfl, by simp [encP]⟩

theorem decodeL_encL (l : List Nat) (hl : ∀ x ∈ l, x < 256) : decodeL (encL l) = (l, 0, 0) := by
  rw [encL_encG l hl]
  obtain ⟨h1, h2, h3, h4⟩ := encP_spec l hl
  have hlt := encP_lt l hl
  generalize encP l = ps at *
  have hok : ∀ c ∈ ps.map chN, okC c = true := by
    intro c hc
    obtain ⟨p, hp, rfl⟩ := List.mem_map.1 hc
    exact okC_chN p (hlt p hp)
  have hpos : posL (ps.map chN) = ps := by
    unfold posL
    rw [List.map_map]
    conv => rhs; rw [← List.map_id ps]
    refine List.map_congr_left fun p hp => ?_
    simp [Function.comp, posC_chN p (hlt p hp)]
  have hfin : ∀ (t : List Nat), (ps.map chN ++ t).length % 4 = 0 → finD (ps.map chN ++ t) ps.length (decSt (posL ((ps.map chN ++ t).take ps.length))) = (l, 0, 0) := by
    intro t ht
    have e : (ps.map chN ++ t).take ps.length = ps.map chN := by
      rw [List.take_append_of_le_length (by simp)]
      rw [List.take_of_length_le (by simp)]
    rw [e, hpos, finD, if_neg (by omega), if_neg (by rw [decSt_v _ hlt, h3]; simp), decSt_o _ hlt, h2]
  rw [h1]
  by_cases h0 : ps.length % 4 = 0
  · have e : (4 - ps.length % 4) % 4 = 0 := by omega
    rw [e, List.replicate_zero]
    have hf := hfin [] (by simp; omega)
    rw [List.append_nil] at hf ⊢
    rw [decodeL_end hok]
    have e2 : (ps.map chN).length = ps.length := by simp
    rw [e2]
    exact hf
  · have hv : ∀ (t : List Nat), ∀ c ∈ ((ps.map chN) ++ 61 :: t).take ps.length, okC c = true := by
      intro t
      rw [List.take_append_of_le_length (by simp), List.take_of_length_le (by simp)]
      exact hok
    have hg : ∀ (t : List Nat), ((ps.map chN) ++ 61 :: t).getD ps.length 0 = 61 := by
      intro t
      rw [List.getD_eq_getElem?_getD, List.getElem?_append_right (by simp)]
      simp
    have h23 : ps.length % 4 = 2 ∨ ps.length % 4 = 3 := by omega
    rcases h23 with h23 | h23
    · have e : (4 - ps.length % 4) % 4 = 2 := by omega
      rw [e]
      show decodeL (ps.map chN ++ [61, 61]) = _
      rw [decodeL_break (k := ps.length) (hv [61]) (by simp) (by rw [hg]; exact okC_61) ⟨hg _, ?_⟩]
      · exact hfin _ (by simp; omega)
      · have e4 : (ps.map chN ++ [61, 61]).length = ps.length + 2 := by simp
        have e5 : (ps.map chN ++ [61, 61]).getD (ps.length + 2 - 1) 0 = 61 := by
          rw [List.getD_eq_getElem?_getD, List.getElem?_append_right (by simp)]
          simp
        simp only [inPl, e4, e5]
        simp
        omega
    · have e : (4 - ps.length % 4) % 4 = 1 := by omega
      rw [e]
      show decodeL (ps.map chN ++ [61]) = _
      rw [decodeL_break (k := ps.length) (hv []) (by simp) (by rw [hg]; exact okC_61) ⟨hg _, ?_⟩]
      · exact hfin _ (by simp; omega)
      · have e4 : (ps.map chN ++ [61]).length = ps.length + 1 := by simp
        simp only [inPl, e4]
        simp
        omega

end Go.Proofs.YtpooaondhpfkmaaDoor
