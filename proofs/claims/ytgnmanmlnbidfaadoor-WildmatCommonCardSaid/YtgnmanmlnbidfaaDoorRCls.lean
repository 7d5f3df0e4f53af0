/- Wildmat: the reference's class, by a walk through its text. -/
import Derived.Test.YtgnmanmlnbidfaaDoorRBit
import Derived.Laws.Rows
import Derived.Laws.Tables
namespace Go.Proofs.YtgnmanmlnbidfaaDoor
open Go.RowKit

theorem alnum_q (c : Nat) (w : World) : Calls Tryd.prog 49 #[.int .u8 c] w fun e w' => e = .returned (.int .i64 (sortF c : Nat)) ∧ w' = w :=
  (alnum_any c w).mono fun _ _ ⟨h1, h2⟩ => ⟨h1, h2.symm⟩

/-- The cells of an element's block. -/
def eA (st : Bool) (f : Nat → Bool) : Array Value := (Value.bool st :: (List.range 128).map fun c => .bool (f c)).toArray
theorem eA_size (st : Bool) (f : Nat → Bool) : (eA st f).size = 129 := by simp [eA]
theorem i70 (st : Bool) (f : Nat → Bool) : (Tryd.prog.info? 70).map (·.size) = some (eA st f).size := by rw [eA_size]; kernel_rfl
theorem eA_one (st : Bool) (f : Nat → Bool) : (eA st f).all (·.oneCell') = true := by
  rw [Array.all_eq_true_iff_forall_mem]
  intro v hv
  simp only [eA, List.mem_toArray, List.mem_cons, List.mem_map] at hv
  rcases hv with rfl | ⟨c, _, rfl⟩ <;> rfl
theorem eB_eq (st : Bool) (f : Nat → Bool) : eB st f = .cells (eA st f) 70 (0, 0) := rfl

/-- A whole element stored in another's block. -/
theorem eB_row {w : World} {b : Nat} {st st' : Bool} {f g : Nat → Bool} (h : w.heap[b]? = some (eB st f)) : (w.setRow b (eA st' g)).heap[b]? = some (eB st' g) := by
  exact setRow_heap w b _ _ 70 _ h

theorem below_row {B g : Nat} {w w' : World} (h : Below B w w') (hg : B ≤ g) (cs : Array Value) : Below B w (w'.setRow g cs) :=
  ⟨h.os, h.tape, h.output, by have := h.size; simp only [World.setRow] at this ⊢; simpa using this, fun k hk => (setRow_other w' g k cs (by omega)).trans (h.block k hk)⟩

theorem res34 (tmps : Array Value) (w : World) (b : Nat) (st : Bool) (g : Nat → Bool) (v : Value) (h4 : tmps[4]?.getD undef = .pointer (some ⟨b, 0, none⟩)) (h5 : tmps[5]?.getD undef = v) (h : w.heap[b]? = some (eB st g)) :
    (results Tryd.f34 tmps).run Tryd.prog w = .ok (.tuple #[.agg (eA st g), v]) w := by
  simp [results, Tryd.f34, h4, h5, asAddr, run_loadVar_row (P := Tryd.prog) w b 70 70 (eA st g) (0, 0) _ h Tryd.underlying70 rfl (i70 _ _)]

/-- What class answers. -/
def RClsAns (R : Option (El × Nat)) (n : Nat) (g : Nat → Bool) (nx : Int) : Prop :=
  match R with
  | none => nx = -1
  | some (e, m) => nx = ((n - m : Nat) : Int) ∧ m ≤ n ∧ eA false g = (eCells e).toArray

/-- A set as its characters' list. -/
def setC (acc : List Nat) (c : Nat) : Bool := acc.contains c
/-- A set of which the first k characters are turned. -/
def invF (acc : List Nat) (k x : Nat) : Bool := if x < k then namedB x && !setC acc x else setC acc x
/-- The part of a range that is noted. -/
def partL (c k : Nat) : List Nat := (List.range (k - c)).map (c + ·)

theorem part_next {c k : Nat} (h : c ≤ k) : partL c (k + 1) = partL c k ++ [k] := by
  unfold partL
  rw [show k + 1 - c = (k - c) + 1 by omega, List.range_succ, List.map_append, List.map_singleton, show c + (k - c) = k by omega]
theorem part_first (c : Nat) : partL c c = [] := by simp [partL]

theorem range_named {c d : Nat} (h : rangeOk c d = true) : ∀ y ∈ rangeL c d, namedB y = true := by
  intro y hy
  simp only [rangeL, List.mem_map, List.mem_range] at hy
  obtain ⟨z, hz, rfl⟩ := hy
  simp only [rangeOk, Bool.and_eq_true, decide_eq_true_eq] at h
  obtain ⟨⟨h1, h2⟩, h3⟩ := h
  simp only [namedB, Bool.or_eq_true, Bool.and_eq_true, decide_eq_true_eq]
  unfold sortF at h1 h2
  by_cases hc : 97 ≤ c ∧ c ≤ 122
  · rw [if_pos hc] at h2
    by_cases hd : 97 ≤ d ∧ d ≤ 122
    · omega
    · rw [if_neg hd] at h2
      split at h2 <;> omega
  · rw [if_neg hc] at h1 h2
    by_cases hc2 : 48 ≤ c ∧ c ≤ 57
    · rw [if_pos hc2] at h2
      by_cases hd : 97 ≤ d ∧ d ≤ 122
      · rw [if_pos hd] at h2; omega
      · rw [if_neg hd] at h2
        by_cases hd2 : 48 ≤ d ∧ d ≤ 57
        · omega
        · rw [if_neg hd2] at h2; omega
    · rw [if_neg hc2] at h1; omega

theorem eB_add {w : World} {b : Nat} {st : Bool} {acc : List Nat} (h : w.heap[b]? = some (eB st (setC acc))) {c : Nat} (hc : c < 128) : (w.setCell ⟨b, 1 + c, none⟩ (.bool true)).heap[b]? = some (eB st (setC (acc ++ [c]))) := by
  rw [eB_set h hc true]
  congr 2
  funext x
  simp only [setC]
  by_cases e : x = c
  · subst e; simp
  · simp [e]

theorem eB_inv {w : World} {b : Nat} {st : Bool} {acc : List Nat} {k : Nat} (h : w.heap[b]? = some (eB st (invF acc k))) (hc : k < 128) : (w.setCell ⟨b, 1 + k, none⟩ (.bool (namedB k && !setC acc k))).heap[b]? = some (eB st (invF acc (k + 1))) := by
  rw [eB_set h hc _]
  congr 2
  funext x
  simp only [invF]
  by_cases e : x = k
  · subst e; simp
  · by_cases e2 : x < k
    · rw [if_neg e, if_pos e2, if_pos (by omega)]
    · rw [if_neg e, if_neg e2, if_neg (by omega)]

theorem inv_zero (acc : List Nat) : invF acc 0 = setC acc := by funext x; simp [invF]
theorem inv_at (acc : List Nat) (k : Nat) : invF acc k k = setC acc k := by simp [invF]

/-- The cells of a class, whole. -/
theorem cells_no (acc : List Nat) (h : ∀ c ∈ acc, namedB c = true) : eA false (setC acc) = (eCells (.cls acc false)).toArray :=
  congrArg List.toArray <| eB_cells rfl fun c _ => by
    show (namedB c && (acc.contains c != false)) = setC acc c
    simp only [setC]
    cases hc : acc.contains c with
    | false => simp
    | true => rw [h c (by simpa using hc)]; rfl
theorem cells_yes (acc : List Nat) : eA false (invF acc 128) = (eCells (.cls acc true)).toArray :=
  congrArg List.toArray <| eB_cells rfl fun c hc => by
    show (namedB c && (acc.contains c != true)) = invF acc 128 c
    rw [invF, if_pos hc, setC]
    cases acc.contains c <;> rfl

set_option maxRecDepth 100000 in
set_option maxHeartbeats 30000000 in
theorem class_loop (s : ByteArray) (i st F : Nat) (inv : Bool) (w : World) (hi : i < s.size) (hs : s.size ≤ 100) (hFu : s.size + 1 ≤ st + F) (h94 : (inv = true ∧ st = i + 2 ∧ i + 1 < s.size ∧ (chars s).getD (i + 1) 0 = 94) ∨ (inv = false ∧ st = i + 1 ∧ (s.size ≤ i + 1 ∨ (i + 1 < s.size ∧ (chars s).getD (i + 1) 0 ≠ 94)))) :
    Calls Tryd.prog 34 #[.string s, .int .i64 i] w fun e w' => (∃ (g : Nat → Bool) (nx : Int), e = .returned (.tuple #[.agg (eA false g), .int .i64 nx]) ∧ Hid (RClsAns ((itemsF F true [] ((chars s).drop st)).map fun x => (El.cls x.1 inv, x.2)) s.size g nx)) ∧ Below w.heap.size w w' := by
  have hinv : Hid ((inv = true ∧ st = i + 2 ∧ i + 1 < s.size ∧ (chars s).getD (i + 1) 0 = 94) ∨ (inv = false ∧ st = i + 1 ∧ (s.size ≤ i + 1 ∨ (i + 1 < s.size ∧ (chars s).getD (i + 1) 0 ≠ 94)))) := Lib.hid h94
  have hst2 : st ≤ i + 2 ∧ i + 1 ≤ st := by rcases h94 with ⟨_, h, _⟩ | ⟨_, h, _⟩ <;> omega
  obtain ⟨R, hR⟩ : ∃ R, itemsF F true [] ((chars s).drop st) = R := ⟨_, rfl⟩
  rw [hR]
  have HRR := Lib.hid hR
  clear hR h94
  go_enter Tryd.func34, Tryd.ntmps34
  go_upto_region 3 with fail
  obtain ⟨W, hW⟩ : ∃ W, (w.alloc (.cells Tryd.zeroCells70 70)).alloc (.cells Tryd.zeroCells70 70) = W := ⟨_, rfl⟩
  have HB0 : Hid (Below w.heap.size w W) := Lib.hid (by rw [← hW]; exact ((Below.refl _ _).alloc (Nat.le_refl _) _).alloc (by simp) _)
  have HR0 : Hid (W.heap[w.heap.size]? = some (eB false fun _ => false)) := Lib.hid (by rw [← hW, Below.heap_alloc _ _ _ (by simp)]; exact eB_new w)
  have HE0 : Hid (W.heap[w.heap.size + 1]? = some (eB false (setC []))) := Lib.hid (by
    have h := eB_new (w.alloc (.cells Tryd.zeroCells70 70))
    rw [hW, World.size_alloc] at h
    exact h)
  rw [hW]
  clear hW
  go_cut [8] (fun v8 wc => v8 = .bool inv ∧ wc = W)
  case first =>
    rcases hinv.out with ⟨rfl, h2, h3, h4⟩ | ⟨rfl, h2, h3 | ⟨h3, h4⟩⟩
    · have hidx := fun W => idx_at s (i + 1) h3 ((i : Int) + 1) (by omega) W
      rw [h4] at hidx
      have hd : (i : Int) + 1 < (s.size : Int) := by omega
      clear h4
      go_wp2_with fail
      go_meet
      case rel => exact ⟨rfl, rfl⟩
    · have hd : decide ((i : Int) + 1 < (s.size : Int)) = false := decide_eq_false (by omega)
      go_wp2_with fail
      go_meet
      case rel => exact ⟨rfl, rfl⟩
    · have hidx := fun W => idx_at s (i + 1) h3 ((i : Int) + 1) (by omega) W
      have hd : decide ((i : Int) + 1 < (s.size : Int)) = true := decide_eq_true (by omega)
      have hne : (((chars s).getD (i + 1) 0 : Int) == 94) = false := by rw [beq_eq_false_iff_ne]; omega
      have hc := chars_lt s (i + 1)
      clear h4
      generalize (chars s).getD (i + 1) 0 = c94 at *
      go_wp2_with fail
      go_meet
      case rel => exact ⟨rfl, rfl⟩
  obtain ⟨rfl, rfl⟩ := hcut
  go_upto_if 25 with fail
  go_cut [7] (fun v7 wx => v7 = .int .i64 st ∧ wx = wc)
  case first =>
    rcases hinv.out with ⟨rfl, h2, h3, h4⟩ | ⟨rfl, h2, h3⟩
    · have hst : (st : Int) = (i : Int) + 1 + 1 := by omega
      clear h3 h4
      go_wp2_with fail
      go_meet
      case rel => exact ⟨by rw [hst], rfl⟩
    · have hst : (st : Int) = (i : Int) + 1 := by omega
      clear h3
      go_wp2_with fail
      go_meet
      case rel => exact ⟨by rw [hst], rfl⟩
  obtain ⟨rfl, rfl⟩ := hcut
  clear hinv
  go_wp2_with fail
  go_loopw [7] (fun vj wr => ∃ (j f : Nat) (acc : List Nat), j ≤ s.size + 2 ∧ st ≤ j ∧ vj = .int .i64 j ∧ Hid (itemsF f (decide (j = st)) acc ((chars s).drop j) = R) ∧ Hid (s.size + 1 ≤ j + f) ∧ Hid (∀ c ∈ acc, namedB c = true) ∧ Hid (wr.heap[w.heap.size + 1]? = some (eB false (setC acc))) ∧ Hid (wr.heap[w.heap.size]? = some (eB false fun _ => false)) ∧ Hid (Below w.heap.size w wr)) (fun vj _ => (s.size + 3 - intOf vj).toNat)
  case atStart => exact ⟨st, _, [], by omega, Nat.le_refl _, rfl, by rw [decide_eq_true rfl]; exact HRR, Lib.hid (by omega), Lib.hid (by simp), HE0, HR0, HB0⟩
  case round =>
    obtain ⟨j, f, acc, hj, hsj, rfl, HI, HF, HA, HE, HR, HB⟩ := hrel
    by_cases hlt : j < s.size
    · have hjd : decide ((j : Int) < (s.size : Int)) = true := decide_eq_true (by omega)
      have hix := fun W => idx_at s j hlt (j : Int) rfl W
      have hc256 := chars_lt s j
      have hlc : Hid (j < (chars s).length) := Lib.hid (by rw [chars_length]; exact hlt)
      obtain ⟨f', rfl⟩ : ∃ f', f = f' + 1 := ⟨f - 1, by have := HF.out; omega⟩
      obtain ⟨c, hc⟩ : ∃ c, (chars s).getD j 0 = c := ⟨_, rfl⟩
      rw [hc] at hix hc256
      have HC := Lib.hid hc
      clear hc
      by_cases h93 : c = 93
      · subst h93
        have hcl := items_close f' (decide (j = st)) acc (chars s) hlc.out HC.out
        have hge : ¬ s.size ≤ j := by omega
        by_cases hjst : j = st
        · have HRN : Hid (R = none) := Lib.hid (by rw [← HI.out, hcl, if_pos (decide_eq_true hjst)])
          have ck : ((j : Int) == (st : Int)) = true := by rw [beq_iff_eq]; omega
          clear hcl hjst
          go_wp2_with (first
            | (refine wpList_load_row rfl 70 (.tmp 6) rfl (w.heap.size + 1) rfl 70 (eA false (setC acc)) (0, 0) _ HE.out Tryd.underlying70 rfl (i70 _ _) ?_)
            | (refine wpList_store_row rfl 70 (.tmp 4) (.tmp 130) rfl w.heap.size (eA false (setC acc)) rfl rfl 70 (eA false fun _ => false) HR.out (i70 _ _) (by rw [eA_size, eA_size]) (eA_one _ _) ?_))
          have hrow := eB_row (st' := false) (g := (setC acc)) HR.out
          refine bodyPost_ret (res34 _ _ w.heap.size false (setC acc) _ rfl rfl hrow) rfl ⟨⟨_, -1, rfl, Lib.hid (by rw [HRN.out]; rfl)⟩, below_row HB.out (Nat.le_refl _) _⟩
        · have HRN : Hid (R = some (acc, s.size - (j + 1))) := Lib.hid (by rw [← HI.out, hcl, if_neg (by simpa using hjst), chars_length])
          have ck : ((j : Int) == (st : Int)) = false := by rw [beq_eq_false_iff_ne]; omega
          clear hcl hjst
          cases inv with
          | true =>
            go_wp2_with fail
            go_loopw [12] (fun vk wq => ∃ k : Nat, k ≤ 128 ∧ vk = .int .i64 k ∧ Hid (wq.heap[w.heap.size + 1]? = some (eB false (invF acc k))) ∧ Hid (wq.heap[w.heap.size]? = some (eB false fun _ => false)) ∧ Hid (Below w.heap.size w wq)) (fun vk _ => (128 - intOf vk).toNat)
            case atStart => exact ⟨0, by omega, rfl, Lib.hid (by rw [inv_zero]; exact HE.out), HR, HB⟩
            case round =>
              clear HE HR HB
              obtain ⟨k, hk, rfl, HE, HR, HB⟩ := hrel
              by_cases hk1 : k < 128
              · have hki : (k : Int) < 128 := by omega
                obtain ⟨cc, ff⟩ := eB_bit HE.out hk1
                rw [inv_at] at cc
                have hset := eB_inv HE.out hk1
                obtain ⟨q, hq⟩ : ∃ q, setC acc k = q := ⟨_, rfl⟩
                obtain ⟨nm, hnm⟩ : ∃ nm, namedB k = nm := ⟨_, rfl⟩
                rw [hq] at cc hset
                rw [hnm] at hset
                have HNM := Lib.hid hnm
                have HSET0 := Lib.hid hset
                clear hq hnm hset
                go_wp2_with fail
                refine (Char_any k _).mono ?_
                rintro e w2 ⟨rfl, rfl⟩
                rw [HNM.out]
                have hset := HSET0.out
                cases nm with
                | true =>
                  rw [Bool.true_and] at hset
                  have HSET := Lib.hid hset
                  clear hset HSET0
                  go_wp2_with fail
                  go_roundw
                  case measure => simp [intOf]; omega
                  case rel => exact ⟨k + 1, by omega, by go_num, Lib.hid HSET.out, Lib.hid (by rw [Below.heap_setCell _ _ _ _ (by simp)]; exact HR.out), Lib.hid (HB.out.setCell (p := ⟨w.heap.size + 1, 1 + k, none⟩) (by simp) _)⟩
                | false =>
                  rw [Bool.false_and] at hset
                  have HSET := Lib.hid hset
                  clear hset HSET0
                  go_wp2_with fail
                  go_roundw
                  case measure => simp [intOf]; omega
                  case rel => exact ⟨k + 1, by omega, by go_num, Lib.hid HSET.out, Lib.hid (by rw [Below.heap_setCell _ _ _ _ (by simp)]; exact HR.out), Lib.hid (HB.out.setCell (p := ⟨w.heap.size + 1, 1 + k, none⟩) (by simp) _)⟩
              · obtain rfl : k = 128 := by omega
                clear hk hk1
                go_wp2_with (first
                  | (refine wpList_load_row rfl 70 (.tmp 6) rfl (w.heap.size + 1) rfl 70 (eA false (invF acc 128)) (0, 0) _ HE.out Tryd.underlying70 rfl (i70 _ _) ?_)
                  | (refine wpList_store_row rfl 70 (.tmp 4) (.tmp 149) rfl w.heap.size (eA false (invF acc 128)) rfl rfl 70 (eA false fun _ => false) HR.out (i70 _ _) (by rw [eA_size, eA_size]) (eA_one _ _) ?_))
                have hrow := eB_row (st' := false) (g := (invF acc 128)) HR.out
                refine bodyPost_ret (res34 _ _ w.heap.size false (invF acc 128) _ rfl rfl hrow) rfl ⟨⟨_, _, rfl, Lib.hid (by rw [HRN.out]; exact ⟨by go_num, by omega, cells_yes acc⟩)⟩, below_row HB.out (Nat.le_refl _) _⟩
          | false =>
            go_wp2_with (first
              | (refine wpList_load_row rfl 70 (.tmp 6) rfl (w.heap.size + 1) rfl 70 (eA false (setC acc)) (0, 0) _ HE.out Tryd.underlying70 rfl (i70 _ _) ?_)
              | (refine wpList_store_row rfl 70 (.tmp 4) (.tmp 149) rfl w.heap.size (eA false (setC acc)) rfl rfl 70 (eA false fun _ => false) HR.out (i70 _ _) (by rw [eA_size, eA_size]) (eA_one _ _) ?_))
            have hrow := eB_row (st' := false) (g := (setC acc)) HR.out
            refine bodyPost_ret (res34 _ _ w.heap.size false (setC acc) _ rfl rfl hrow) rfl ⟨⟨_, _, rfl, Lib.hid (by rw [HRN.out]; exact ⟨by go_num, by omega, cells_no acc HA.out⟩)⟩, below_row HB.out (Nat.le_refl _) _⟩
      · have hne : ((c : Int) != 93) = true := by rw [bne_iff_ne]; omega
        have H93 : Hid ((chars s).getD j 0 ≠ 93) := Lib.hid (by rw [HC.out]; exact h93)
        go_wp2_with fail
        refine (Char_any c _).mono ?_
        rintro e w2 ⟨rfl, rfl⟩
        obtain ⟨nm, hnm⟩ : ∃ nm, namedB c = nm := ⟨_, rfl⟩
        rw [hnm]
        cases nm with
        | false =>
          have HRN : Hid (R = none) := Lib.hid (by rw [← HI.out]; exact items_bad _ _ _ _ hlc.out H93.out (.inl (by rw [HC.out]; exact hnm)))
          clear hnm hix
          go_wp2_with (first
            | (refine wpList_load_row rfl 70 (.tmp 6) rfl (w.heap.size + 1) rfl 70 (eA false (setC acc)) (0, 0) _ HE.out Tryd.underlying70 rfl (i70 _ _) ?_)
            | (refine wpList_store_row rfl 70 (.tmp 4) (.tmp 54) rfl w.heap.size (eA false (setC acc)) rfl rfl 70 (eA false fun _ => false) HR.out (i70 _ _) (by rw [eA_size, eA_size]) (eA_one _ _) ?_))
          have hrow := eB_row (st' := false) (g := (setC acc)) HR.out
          refine bodyPost_ret (res34 _ _ w.heap.size false (setC acc) _ rfl rfl hrow) rfl ⟨⟨_, -1, rfl, Lib.hid (by rw [HRN.out]; rfl)⟩, below_row HB.out (Nat.le_refl _) _⟩
        | true =>
          have HNM : Hid (namedB ((chars s).getD j 0) = true) := Lib.hid (by rw [HC.out]; exact hnm)
          have hc128 : c < 128 := named_lt hnm
          have HNA : Hid (namedB c = true) := Lib.hid hnm
          clear hnm hix hne
          have hci : (c : Int) < 128 := by omega
          obtain ⟨cc, ff⟩ := eB_bit HE.out hc128
          have HSET := Lib.hid (eB_add HE.out hc128)
          have HREL : Hid (itemsF f' false (acc ++ [c]) ((chars s).drop (j + 1)) = R → ∃ (j_1 f : Nat) (acc_1 : List Nat), j_1 ≤ s.size + 2 ∧ st ≤ j_1 ∧ Value.int .i64 ((j : Int) + 1) = .int .i64 j_1 ∧ Hid (itemsF f (decide (j_1 = st)) acc_1 ((chars s).drop j_1) = R) ∧ Hid (s.size + 1 ≤ j_1 + f) ∧ Hid (∀ c ∈ acc_1, namedB c = true) ∧ Hid ((wr.setCell ⟨w.heap.size + 1, 1 + c, none⟩ (.bool true)).heap[w.heap.size + 1]? = some (eB false (setC acc_1))) ∧ Hid ((wr.setCell ⟨w.heap.size + 1, 1 + c, none⟩ (.bool true)).heap[w.heap.size]? = some (eB false fun _ => false)) ∧ Hid (Below w.heap.size w (wr.setCell ⟨w.heap.size + 1, 1 + c, none⟩ (.bool true)))) := Lib.hid (fun HNX => ⟨j + 1, f', acc ++ [c], by omega, by omega, by go_num, Lib.hid (by rw [decide_eq_false (by omega : ¬ j + 1 = st)]; exact HNX), Lib.hid (by have := HF.out; omega), Lib.hid (fun y hy => (List.mem_append.1 hy).elim (HA.out y) (fun h => by rw [List.mem_singleton.1 h]; exact HNA.out)), Lib.hid HSET.out, Lib.hid (by rw [Below.heap_setCell _ _ _ _ (by simp)]; exact HR.out), Lib.hid (HB.out.setCell (p := ⟨w.heap.size + 1, 1 + c, none⟩) (by simp) _)⟩)
          by_cases h45 : c = 45
          · subst h45
            by_cases hjst : j = st
            · have hgt : ¬ (st : Int) < (j : Int) := by omega
              have hgn : ¬ st < j := by omega
              have HNX := Lib.hid ((items_plain f' _ acc _ hlc.out HNM.out (.inl ⟨HC.out, decide_eq_true hjst⟩)).symm.trans HI.out)
              rw [HC.out] at HNX
              clear hjst
              go_wp2_with fail
              go_roundw
              case measure => simp [intOf]; omega
              case rel => exact HREL.out HNX.out
            · have hgt : (st : Int) < (j : Int) := by omega
              have HRN : Hid (R = none) := Lib.hid (by rw [← HI.out]; exact items_bad _ _ _ _ hlc.out H93.out (.inr ⟨HC.out, decide_eq_false hjst⟩))
              clear hjst HREL HSET cc ff
              go_wp2_with (first
                | (refine wpList_load_row rfl 70 (.tmp 6) rfl (w.heap.size + 1) rfl 70 (eA false (setC acc)) (0, 0) _ HE.out Tryd.underlying70 rfl (i70 _ _) ?_)
                | (refine wpList_store_row rfl 70 (.tmp 4) (.tmp 54) rfl w.heap.size (eA false (setC acc)) rfl rfl 70 (eA false fun _ => false) HR.out (i70 _ _) (by rw [eA_size, eA_size]) (eA_one _ _) ?_))
              have hrow := eB_row (st' := false) (g := (setC acc)) HR.out
              refine bodyPost_ret (res34 _ _ w.heap.size false (setC acc) _ rfl rfl hrow) rfl ⟨⟨_, -1, rfl, Lib.hid (by rw [HRN.out]; rfl)⟩, below_row HB.out (Nat.le_refl _) _⟩
          · have h45b : ((c : Int) == 45) = false := by rw [beq_eq_false_iff_ne]; omega
            have h45n : ((c : Int) != 45) = true := by rw [bne_iff_ne]; omega
            have HC45 : Hid ((chars s).getD j 0 ≠ 45) := Lib.hid (by rw [HC.out]; exact h45)
            by_cases hj1 : j + 1 < s.size
            · have hj1d : decide ((j : Int) + 1 < (s.size : Int)) = true := decide_eq_true (by omega)
              have hix1 := fun W => idx_at s (j + 1) hj1 ((j : Int) + 1) (by omega) W
              have hd256 := chars_lt s (j + 1)
              have hlc1 : Hid (j + 1 < (chars s).length) := Lib.hid (by rw [chars_length]; exact hj1)
              obtain ⟨d1, hd1⟩ : ∃ d1, (chars s).getD (j + 1) 0 = d1 := ⟨_, rfl⟩
              rw [hd1] at hix1 hd256
              have HD1 := Lib.hid hd1
              clear hd1
              by_cases hd45 : d1 = 45
              · subst hd45
                clear HSET cc ff HREL
                by_cases hj2 : j + 2 < s.size
                · have hix2 := fun W => idx_at s (j + 2) hj2 ((j : Int) + 2) (by omega) W
                  have hd2 := chars_lt s (j + 2)
                  have hge2 : decide ((s.size : Int) ≤ (j : Int) + 2) = false := decide_eq_false (by omega)
                  obtain ⟨d, hd⟩ : ∃ d, (chars s).getD (j + 2) 0 = d := ⟨_, rfl⟩
                  rw [hd] at hix2 hd2
                  have HD := Lib.hid hd
                  clear hd
                  go_wp2_with fail
                  refine (alnum_any c _).mono ?_
                  rintro e2 w2 ⟨rfl, rfl⟩
                  by_cases hs0 : sortF c = 0
                  · have HRN : Hid (R = none) := Lib.hid (by rw [← HI.out]; exact items_norange _ _ _ _ hlc1.out HNM.out HC45.out HD1.out (.inr (by rw [HC.out, HD.out]; simp [rangeOk, hs0])))
                    have hz : ((sortF c : Int) == 0) = true := by rw [hs0]; rfl
                    clear hs0
                    go_wp2_with (first
                      | (refine wpList_load_row rfl 70 (.tmp 6) rfl (w.heap.size + 1) rfl 70 (eA false (setC acc)) (0, 0) _ HE.out Tryd.underlying70 rfl (i70 _ _) ?_)
                      | (refine wpList_store_row rfl 70 (.tmp 4) (.tmp 99) rfl w.heap.size (eA false (setC acc)) rfl rfl 70 (eA false fun _ => false) HR.out (i70 _ _) (by rw [eA_size, eA_size]) (eA_one _ _) ?_))
                    have hrow := eB_row (st' := false) (g := (setC acc)) HR.out
                    refine bodyPost_ret (res34 _ _ w.heap.size false (setC acc) _ rfl rfl hrow) rfl ⟨⟨_, -1, rfl, Lib.hid (by rw [HRN.out]; rfl)⟩, below_row HB.out (Nat.le_refl _) _⟩
                  · have hz : ((sortF c : Int) == 0) = false := by rw [beq_eq_false_iff_ne]; omega
                    go_wp2_with fail
                    refine (alnum_any d _).mono ?_
                    rintro e2 w2 ⟨rfl, rfl⟩
                    go_wp2_with fail
                    refine (alnum_any c _).mono ?_
                    rintro e2 w2 ⟨rfl, rfl⟩
                    by_cases hss : sortF c = sortF d
                    · have hss1 : ((sortF d : Int) != (sortF c : Int)) = false := by rw [hss]; simp
                      by_cases hle : c ≤ d
                      · have hrk : rangeOk c d = true := by simp only [rangeOk, Bool.and_eq_true, decide_eq_true_eq]; exact ⟨⟨by omega, hss⟩, hle⟩
                        have hNX := items_range f' (decide (j = st)) acc (chars s) (by rw [chars_length]; exact hj2) HNM.out HC45.out HD1.out (by rw [HC.out, HD.out]; exact hrk)
                        rw [HC.out, HD.out] at hNX
                        have HNX := Lib.hid (hNX.symm.trans HI.out)
                        have HRG := Lib.hid (range_named hrk)
                        have hrlt := rangeOk_lt hrk
                        have hle1 : decide ((d : Int) < (c : Int)) = false := decide_eq_false (by omega)
                        have hle2 : ¬ d < c := by omega
                        clear hNX hrk hss hs0
                        go_wp2_with fail
                        go_loopw [11] (fun vk wq => ∃ k : Nat, c ≤ k ∧ k ≤ d + 1 ∧ vk = .int .i64 k ∧ Hid (wq.heap[w.heap.size + 1]? = some (eB false (setC (acc ++ partL c k)))) ∧ Hid (wq.heap[w.heap.size]? = some (eB false fun _ => false)) ∧ Hid (Below w.heap.size w wq)) (fun vk _ => (d + 1 - intOf vk).toNat)
                        case atStart => exact ⟨c, by omega, by omega, rfl, Lib.hid (by rw [part_first, List.append_nil]; exact HE.out), HR, HB⟩
                        case round =>
                          clear HE HR HB
                          obtain ⟨k, hck, hk, rfl, HE, HR, HB⟩ := hrel
                          by_cases hkd : k ≤ d
                          · have hkdi : decide ((k : Int) ≤ (d : Int)) = true := decide_eq_true (by omega)
                            have hk128 : (k : Int) < 128 := by omega
                            obtain ⟨cc, ff⟩ := eB_bit HE.out (c := k) (by omega)
                            have HSET := Lib.hid (eB_add HE.out (c := k) (by omega))
                            go_wp2_with fail
                            go_roundw
                            case measure => simp [intOf]; omega
                            case rel => exact ⟨k + 1, by omega, by omega, by go_num, Lib.hid (by rw [part_next hck, ← List.append_assoc]; exact HSET.out), Lib.hid (by rw [Below.heap_setCell _ _ _ _ (by simp)]; exact HR.out), Lib.hid (HB.out.setCell (p := ⟨w.heap.size + 1, 1 + k, none⟩) (by simp) _)⟩
                          · obtain rfl : k = d + 1 := by omega
                            have hkdi : decide ((((d + 1 : Nat)) : Int) ≤ (d : Int)) = false := decide_eq_false (by omega)
                            clear hkd hk
                            go_wp2_with fail
                            go_roundw
                            case measure => simp [intOf]; omega
                            case rel => exact ⟨j + 3, f', acc ++ rangeL c d, by omega, by omega, by go_num, Lib.hid (by rw [decide_eq_false (by omega : ¬ j + 3 = st)]; exact HNX.out), Lib.hid (by have := HF.out; omega), Lib.hid (fun y hy => (List.mem_append.1 hy).elim (HA.out y) (HRG.out y)), Lib.hid HE.out, HR, HB⟩
                      · have HRN : Hid (R = none) := Lib.hid (by rw [← HI.out]; exact items_norange _ _ _ _ hlc1.out HNM.out HC45.out HD1.out (.inr (by rw [HC.out, HD.out]; simp [rangeOk, hle])))
                        have hle1 : decide ((d : Int) < (c : Int)) = true := decide_eq_true (by omega)
                        have hle2 : d < c := by omega
                        clear hs0 hss hle
                        go_wp2_with (first
                          | (refine wpList_load_row rfl 70 (.tmp 6) rfl (w.heap.size + 1) rfl 70 (eA false (setC acc)) (0, 0) _ HE.out Tryd.underlying70 rfl (i70 _ _) ?_)
                          | (refine wpList_store_row rfl 70 (.tmp 4) (.tmp 99) rfl w.heap.size (eA false (setC acc)) rfl rfl 70 (eA false fun _ => false) HR.out (i70 _ _) (by rw [eA_size, eA_size]) (eA_one _ _) ?_))
                        have hrow := eB_row (st' := false) (g := (setC acc)) HR.out
                        refine bodyPost_ret (res34 _ _ w.heap.size false (setC acc) _ rfl rfl hrow) rfl ⟨⟨_, -1, rfl, Lib.hid (by rw [HRN.out]; rfl)⟩, below_row HB.out (Nat.le_refl _) _⟩
                    · have HRN : Hid (R = none) := Lib.hid (by rw [← HI.out]; exact items_norange _ _ _ _ hlc1.out HNM.out HC45.out HD1.out (.inr (by rw [HC.out, HD.out]; simp [rangeOk, hss])))
                      have hss1 : ((sortF d : Int) != (sortF c : Int)) = true := by rw [bne_iff_ne]; omega
                      clear hs0 hss
                      go_wp2_with (first
                        | (refine wpList_load_row rfl 70 (.tmp 6) rfl (w.heap.size + 1) rfl 70 (eA false (setC acc)) (0, 0) _ HE.out Tryd.underlying70 rfl (i70 _ _) ?_)
                        | (refine wpList_store_row rfl 70 (.tmp 4) (.tmp 99) rfl w.heap.size (eA false (setC acc)) rfl rfl 70 (eA false fun _ => false) HR.out (i70 _ _) (by rw [eA_size, eA_size]) (eA_one _ _) ?_))
                      have hrow := eB_row (st' := false) (g := (setC acc)) HR.out
                      refine bodyPost_ret (res34 _ _ w.heap.size false (setC acc) _ rfl rfl hrow) rfl ⟨⟨_, -1, rfl, Lib.hid (by rw [HRN.out]; rfl)⟩, below_row HB.out (Nat.le_refl _) _⟩
                · have HRN : Hid (R = none) := Lib.hid (by rw [← HI.out]; exact items_norange _ _ _ _ hlc1.out HNM.out HC45.out HD1.out (.inl (by rw [chars_length]; omega)))
                  have hge2 : decide ((s.size : Int) ≤ (j : Int) + 2) = true := decide_eq_true (by omega)
                  clear hj2
                  go_wp2_with (first
                    | (refine wpList_load_row rfl 70 (.tmp 6) rfl (w.heap.size + 1) rfl 70 (eA false (setC acc)) (0, 0) _ HE.out Tryd.underlying70 rfl (i70 _ _) ?_)
                    | (refine wpList_store_row rfl 70 (.tmp 4) (.tmp 99) rfl w.heap.size (eA false (setC acc)) rfl rfl 70 (eA false fun _ => false) HR.out (i70 _ _) (by rw [eA_size, eA_size]) (eA_one _ _) ?_))
                  have hrow := eB_row (st' := false) (g := (setC acc)) HR.out
                  refine bodyPost_ret (res34 _ _ w.heap.size false (setC acc) _ rfl rfl hrow) rfl ⟨⟨_, -1, rfl, Lib.hid (by rw [HRN.out]; rfl)⟩, below_row HB.out (Nat.le_refl _) _⟩
              · have h45d : ((d1 : Int) == 45) = false := by rw [beq_eq_false_iff_ne]; omega
                have HNX := Lib.hid ((items_plain f' _ acc _ hlc.out HNM.out (.inr ⟨HC45.out, by rw [HD1.out]; exact hd45⟩)).symm.trans HI.out)
                rw [HC.out] at HNX
                go_wp2_with fail
                go_roundw
                case measure => simp [intOf]; omega
                case rel => exact HREL.out HNX.out
            · have hj1d : decide ((j : Int) + 1 < (s.size : Int)) = false := decide_eq_false (by omega)
              have HNX := Lib.hid ((items_plain f' _ acc _ hlc.out HNM.out (.inr ⟨HC45.out, by
                rw [List.getD_eq_getElem?_getD, List.getElem?_eq_none (by rw [chars_length]; omega)]
                decide⟩)).symm.trans HI.out)
              rw [HC.out] at HNX
              go_wp2_with fail
              go_roundw
              case measure => simp [intOf]; omega
              case rel => exact HREL.out HNX.out
    · have HRN : Hid (R = none) := Lib.hid (by rw [← HI.out]; exact items_end _ _ _ _ (by rw [chars_length]; omega))
      have hjd : decide ((j : Int) < (s.size : Int)) = false := decide_eq_false (by omega)
      have hjg : (s.size : Int) ≤ (j : Int) := by omega
      have hjn : s.size ≤ j := by omega
      go_wp2_with (first
        | (refine wpList_load_row rfl 70 (.tmp 6) rfl (w.heap.size + 1) rfl 70 (eA false (setC acc)) (0, 0) _ HE.out Tryd.underlying70 rfl (i70 _ _) ?_)
        | (refine wpList_store_row rfl 70 (.tmp 4) (.tmp 130) rfl w.heap.size (eA false (setC acc)) rfl rfl 70 (eA false fun _ => false) HR.out (i70 _ _) (by rw [eA_size, eA_size]) (eA_one _ _) ?_))
      have hrow := eB_row (st' := false) (g := (setC acc)) HR.out
      refine bodyPost_ret (res34 _ _ w.heap.size false (setC acc) _ rfl rfl hrow) rfl ⟨⟨_, -1, rfl, Lib.hid (by rw [HRN.out]; rfl)⟩, below_row HB.out (Nat.le_refl _) _⟩

theorem RClass_any (s : ByteArray) (i : Nat) (w : World) (hi : i < s.size) (hs : s.size ≤ 100) :
    Calls Tryd.prog 34 #[.string s, .int .i64 i] w fun e w' => (∃ (g : Nat → Bool) (nx : Int), e = .returned (.tuple #[.agg (eA false g), .int .i64 nx]) ∧ Hid (RClsAns (classF ((chars s).drop (i + 1))) s.size g nx)) ∧ Below w.heap.size w w' := by
  have hl := chars_length s
  unfold classF
  by_cases h : ((chars s).drop (i + 1)).head? = some 94
  · rw [if_pos h, List.tail_drop]
    rw [head_at _ _ _ (by decide)] at h
    have hlt : i + 1 < s.size := by
      rcases Nat.lt_or_ge (i + 1) s.size with h1 | h1
      · exact h1
      · rw [List.getD_eq_getElem?_getD, List.getElem?_eq_none (by omega)] at h
        simp at h
    exact class_loop s i (i + 2) _ true w hi hs (by rw [List.length_drop, hl]; omega) (.inl ⟨rfl, rfl, hlt, h⟩)
  · rw [if_neg h]
    rw [head_at _ _ _ (by decide)] at h
    refine class_loop s i (i + 1) _ false w hi hs (by rw [List.length_drop, hl]; omega) (.inr ⟨rfl, rfl, ?_⟩)
    rcases Nat.lt_or_ge (i + 1) s.size with h1 | h1
    · exact .inr ⟨h1, h⟩
    · exact .inl h1

end Go.Proofs.YtgnmanmlnbidfaaDoor
