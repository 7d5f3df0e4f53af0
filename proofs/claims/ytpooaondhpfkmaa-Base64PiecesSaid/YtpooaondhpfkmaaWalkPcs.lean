/- Base64: the law on pieces, by a walk through its text. -/
import Derived.Test.YtpooaondhpfkmaaWriter
namespace Go.Proofs.Ytpooaondhpfkmaa
open Go.RowKit Go.Maps

/-- A slice of slices of bytes that came in. -/
def RowsIn (w : World) (a : Option Addr) (ls : List (List Nat)) : Prop :=
  ∀ i, i < ls.length → ∃ b off, a = some ⟨b, off, none⟩ ∧ b < w.heap.size ∧ ∃ A C, w.cell? ⟨b, off + i, none⟩ = some (.slice A (ls.getD i []).length C) ∧ Reads w A (ls.getD i []) ∧ (A = none → C = 0) ∧ (∀ x ∈ ls.getD i [], x < 256)

/-- What is complete of the bytes so far, and what waits. -/
def doneL (l : List Nat) : List Nat := l.take (l.length / 3 * 3)
def waitL (l : List Nat) : List Nat := l.drop (l.length / 3 * 3)

theorem done_wait (l : List Nat) : doneL l ++ waitL l = l := List.take_append_drop _ _
theorem doneL_length (l : List Nat) : (doneL l).length = l.length / 3 * 3 := by unfold doneL; rw [List.length_take]; omega
theorem waitL_length (l : List Nat) : (waitL l).length = l.length % 3 := by unfold waitL; rw [List.length_drop]; omega

theorem encL_append (a b : List Nat) (ha : ∀ x ∈ a, x < 256) (hb : ∀ x ∈ b, x < 256) (h3 : a.length % 3 = 0) : encL (a ++ b) = encL a ++ encL b := by
  rw [encL_encG _ ha, encL_encG _ hb, encL_encG, encG_append _ _ h3]
  intro x hx
  rcases List.mem_append.1 hx with h | h
  · exact ha x h
  · exact hb x h

theorem done_step (all l : List Nat) : doneL (all ++ l) = doneL all ++ (waitL all ++ l).take (((waitL all).length + l.length) / 3 * 3) := by
  have h1 : all ++ l = doneL all ++ (waitL all ++ l) := by rw [← List.append_assoc, done_wait]
  have h2 : (all ++ l).length / 3 * 3 = (doneL all).length + ((waitL all).length + l.length) / 3 * 3 := by
    rw [doneL_length, waitL_length, List.length_append]; omega
  conv => lhs; unfold doneL; rw [h2, h1]
  rw [List.take_append, Nat.add_sub_cancel_left, List.take_of_length_le (by omega)]

theorem wait_step (all l : List Nat) : waitL (all ++ l) = (waitL all ++ l).drop (((waitL all).length + l.length) / 3 * 3) := by
  have h1 : all ++ l = doneL all ++ (waitL all ++ l) := by rw [← List.append_assoc, done_wait]
  have h2 : (all ++ l).length / 3 * 3 = (doneL all).length + ((waitL all).length + l.length) / 3 * 3 := by
    rw [doneL_length, waitL_length, List.length_append]; omega
  conv => lhs; unfold waitL; rw [h2, h1]
  rw [List.drop_append]
  simp

theorem mem_doneL {l : List Nat} {x : Nat} (h : x ∈ doneL l) : x ∈ l := List.mem_of_mem_take h
theorem mem_waitL {l : List Nat} {x : Nat} (h : x ∈ waitL l) : x ∈ l := List.mem_of_mem_drop h

theorem row_not_at {w : World} {base : Nat} {v : Value} {n : Nat} {xs : List Value} (h : w.ownsRow (base + 1) 5 1 v n xs) : v.ownBlock ≠ some base := by
  intro e
  have := (h.lt base e).1
  omega

set_option maxHeartbeats 4000000 in
theorem pieces_walk (Pa : Option Addr) (cap : Nat) (ls : List (List Nat)) (w : World) (hrows : RowsIn w Pa ls) :
    Calls Try.prog 7 #[.slice Pa ls.length cap] w fun e w' => e = .returned (.bool true) ∧ Below w.heap.size w w' := by
  have HROWS := Lib.hid hrows
  clear hrows
  by_cases h : ls.length ≤ 30
  · have hd : decide ((30 : Int) < (ls.length : Int)) = false := decide_eq_false (by omega)
    go_enter Try.func7, Try.ntmps7
    go_wp2_with fail
    refine (known_any _).mono ?_
    rintro e w1 ⟨rfl, b1⟩
    go_wp2_with fail
    refine (newEncoder_any _).mono ?_
    rintro e w2 ⟨rfl, hen, b2, hsz2⟩
    have B2 : Below w.heap.size w w2 := b1.trans (b2.mono b1.size)
    have hE : w.heap.size ≤ w1.heap.size := b1.size
    have HEN := Lib.hid hen
    clear b1 b2 hen
    generalize w1.heap.size = eb at *
    go_wp2_with fail
    go_loopw [4, 5, 6] (fun va vo vi wr => ∃ (i : Nat) (all : List Nat), i ≤ ls.length ∧ vi = .int .i64 i ∧ Hid (∀ x ∈ all, x < 256) ∧ all.length ≤ 200 * i ∧ vo = .string (strOf (encL (doneL all))) ∧ wr.ownsRow (eb + 1) 5 1 va all.length (vals all) ∧ Hid (EnSt eb (waitL all) all.length false wr) ∧ eb < wr.heap.size ∧ Below w.heap.size w wr) (fun _ _ vi _ => (ls.length - intOf vi).toNat)
    case atStart => exact ⟨0, [], by omega, rfl, by intro x hx; simp at hx, by simp, rfl, World.ownsRow_nil _ _ _ _, HEN.out, hsz2, B2⟩
    case round =>
      clear HEN B2 hsz2
      obtain ⟨i, all, hi, rfl, hlt, hal, rfl, hrow, HEN, hebs, HB⟩ := hrel
      by_cases hil : i < ls.length
      · obtain ⟨b, off, rfl, hb, A, C, hcell, hr, hnil, hl⟩ := HROWS.out i hil
        have hcl : wr.cell? ⟨b, off + i, none⟩ = some (.slice A (ls.getD i []).length C) := (HB.cell (p := ⟨b, off + i, none⟩) hb).trans hcell
        have HR := Lib.hid hr
        have HNIL := Lib.hid hnil
        have HL := Lib.hid hl
        generalize ls.getD i [] = l at *
        have HC := Lib.hid hcell
        clear hcell hr hnil hl
        by_cases h200 : l.length ≤ 200
        · have hd2 : decide ((200 : Int) < (l.length : Int)) = false := decide_eq_false (by omega)
          have hw := waitL_length all
          have hs : (encL (doneL all)).length = all.length / 3 * 4 := by
            rw [encL_encG _ (fun x hx => hlt.out x (mem_doneL hx)), encG_length, doneL_length]; omega
          have hwl : (waitL all).length ≤ 3 := by rw [hw]; omega
          have hso : (strOf (encL (doneL all))).size ≤ 10000 := by rw [strOf_size, hs]; omega
          have hadd : all.length + l.length ≤ 131072 := by omega
          have hds := done_step all l
          have hws := wait_step all l
          have hea : encL (doneL (all ++ l)) = encL (doneL all) ++ encL ((waitL all ++ l).take (((waitL all).length + l.length) / 3 * 3)) := by
            rw [hds, encL_append]
            · intro x hx; exact hlt.out x (mem_doneL hx)
            · intro x hx
              rcases List.mem_append.1 (List.mem_of_mem_take hx) with h | h
              · exact hlt.out x (mem_waitL h)
              · exact HL.out x h
            · rw [doneL_length]; omega
          have hlt2 : Hid (∀ x ∈ all ++ l, x < 256) := by
            intro x hx
            rcases List.mem_append.1 hx with h | h
            · exact hlt.out x h
            · exact HL.out x h
          have hs3 : (encL (doneL (all ++ l))).length = (all.length + l.length) / 3 * 4 := by
            rw [encL_encG _ (fun x hx => hlt2.out x (mem_doneL hx)), encG_length, doneL_length, List.length_append]; omega
          have hcat : strOf (encL (doneL all)) ++ strOf (encL ((waitL all ++ l).take (((waitL all).length + l.length) / 3 * 3))) = strOf (encL (doneL (all ++ l))) := by rw [hea]; exact strOf_append _ _
          have hso2 : (strOf (encL (doneL (all ++ l)))).size = (all.length + l.length) / 3 * 4 := by rw [strOf_size, hs3]
          have hso3 : (strOf (encL ((waitL all ++ l).take (((waitL all).length + l.length) / 3 * 3)))).size ≤ 10000 := by
            have h1 := congrArg ByteArray.size hcat
            rw [ByteArray.size_append] at h1
            omega
          have HWS := Lib.hid hws
          have HALL := Lib.hid (show (all ++ l).length = all.length + l.length from List.length_append)
          clear hds hws hea hs hs3 hw
          have W1 := writer_any eb (waitL all) all.length A l C wr HEN.out (HR.out.below HB) HNIL.out (fun h0 a e hh => by
            rcases HR.out with hz | ⟨b', off', h1, h2, _⟩
            · exact h0 hz
            · rw [h1] at e
              obtain rfl := Option.some.inj e
              simp at hh
              omega) HL.out (fun x hx => hlt.out x (mem_waitL hx)) hwl hadd
          have HW1 := Lib.hid W1
          clear W1
          go_wp2_with fail
          refine HW1.out.mono ?_
          clear HW1
          rintro e w3 ⟨rfl, ⟨vr, hvr, hrr⟩, g3⟩
          rw [← HWS.out] at hrr
          generalize strOf (encL ((waitL all ++ l).take (((waitL all).length + l.length) / 3 * 3))) = s1 at *
          generalize strOf (encL (doneL all)) = s0 at *
          obtain ⟨s2, hs2⟩ : ∃ s2, s2 = strOf (encL (doneL (all ++ l))) := ⟨_, rfl⟩
          rw [← hs2] at hcat hso2
          have HS2 := Lib.hid hs2
          clear hs2
          have hrow3 := hrow.kept g3 (by
            rcases hrow.2 with ⟨rfl, _⟩ | ⟨g, cap', cur, rfl, hg, _⟩
            · left; rfl
            · right; simp [Value.ownBlock]; omega)
          have hcl3 : w3.cell? ⟨b, off + i, none⟩ = some (.slice A l.length C) := g3.cell hcl (by simp; omega)
          have HR3 : Reads w3 A l := (HR.out.below HB).grown g3 (fun h0 a e hh => by
            rcases HR.out with hz | ⟨b', off', h1, h2, _⟩
            · exact h0 hz
            · rw [h1] at e
              obtain rfl := Option.some.inj e
              simp at hh
              omega)
          have HB3 : Below w.heap.size w w3 := HB.grown g3 HB.size (fun k hk => by cases hk; exact hE)
          have hz3 := g3.size
          clear hcl
          go_wp2_with (at_builtin; refine wpList_append_reads rfl _ _ rfl (eb + 1) _ all l rfl hrow3 A C rfl ?c2 ?c3 ?c4 ?c5 ?_)
          case c2 => exact HR3
          case c3 => exact HNIL.out
          case c4 => omega
          case c5 => omega
          intro v4 w4 o4' g4
          have o4 : w4.ownsRow (eb + 1) 5 1 v4 (all ++ l).length (vals (all ++ l)) := by first | exact o4' | (rw [HALL.out]; exact o4')
          have hen4 : EnSt eb (waitL (all ++ l)) (all.length + l.length) false w4 := by
            refine ⟨vr, ?_, ?_⟩
            · rw [g4.block eb (by omega) (fun e => row_not_at hrow e.symm)]
              exact hvr
            · refine row_mono (hrr.kept g4 ?_) (by omega)
              rcases hrr.2 with ⟨rfl, _⟩ | ⟨g, cap', cur, rfl, hg, _⟩
              · left; rfl
              · right
                intro e
                have := (hrow.lt g (by rw [← e]; rfl)).2
                omega
          have HEN4 := Lib.hid hen4
          have HB4 : Below w.heap.size w w4 := HB3.grown g4 HB3.size (fun k hk => by have := (hrow.lt k hk).1; omega)
          have hz4 := g4.size
          obtain ⟨A4, C4, rfl, R4, hnil4, hbl4, hc4⟩ := row_reads o4
          have O4 := Lib.hid o4
          clear o4' o4 g4 hrr hvr hrow hrow3 hcl3 HR3 g3 hen4 R4 hnil4 hbl4 hc4 hadd
          go_wp2_with fail
          refine (len_any _ _ _ _ _ HEN4.out).mono ?_
          rintro e w5 ⟨rfl, rfl⟩
          go_wp2_with fail
          go_roundw
          case rel => exact ⟨i + 1, all ++ l, by omega, by go_num, hlt2, by rw [HALL.out]; omega, by rw [HS2.out], by have h := O4.out; rw [HALL.out] at h ⊢; exact h, by rw [HALL.out]; exact HEN4.out, by omega, HB4⟩
          case measure => simp [intOf]; omega
        · have hd2 : decide ((200 : Int) < (l.length : Int)) = true := decide_eq_true (by omega)
          go_wp2_with fail
          go_ret
          exact ⟨rfl, HB⟩
      · obtain rfl : i = ls.length := by omega
        have hw := waitL_length all
        have hwl : (waitL all).length ≤ 3 := by rw [hw]; omega
        have hs : (encL (doneL all)).length = all.length / 3 * 4 := by
          rw [encL_encG _ (fun x hx => hlt.out x (mem_doneL hx)), encG_length, doneL_length]; omega
        have hso : (strOf (encL (doneL all))).size ≤ 10000 := by rw [strOf_size, hs]; omega
        have hso2 : (strOf (encL (waitL all))).size ≤ 10000 := by
          rw [strOf_size, encL_encG _ (fun x hx => hlt.out x (mem_waitL hx)), encG_length]; omega
        have hcat : strOf (encL (doneL all)) ++ strOf (encL (waitL all)) = strOf (encL all) := by
          rw [strOf_append, ← encL_append, done_wait]
          · intro x hx; exact hlt.out x (mem_doneL hx)
          · intro x hx; exact hlt.out x (mem_waitL hx)
          · rw [doneL_length]; omega
        have hss : ((strOf (encL all)).toList != (strOf (encL all)).toList) = false := by simp
        have hlen9 : (((all.length : Nat) : Int) == (all.length : Int)) = true := by simp
        have W1 := Lib.hid (close_any eb (waitL all) all.length wr HEN.out (fun x hx => hlt.out x (mem_waitL hx)) hwl)
        clear hs hw
        go_wp2_with fail
        refine W1.out.mono ?_
        clear W1
        rintro e w3 ⟨rfl, hen3, g3⟩
        have HEN3 := Lib.hid hen3
        have hrow3 := hrow.kept g3 (by
          rcases hrow.2 with ⟨rfl, _⟩ | ⟨g, cap', cur, rfl, hg, _⟩
          · left; rfl
          · right; simp [Value.ownBlock]; omega)
        have HB3 : Below w.heap.size w w3 := HB.grown g3 HB.size (fun k hk => by cases hk; exact hE)
        have hz3 := g3.size
        obtain ⟨A4, C4, rfl, R4, hnil4, hbl4, hc4⟩ := row_reads hrow3
        have R4' := Lib.hid R4
        clear hen3 hrow hrow3 g3 hnil4 hbl4 hc4 R4
        generalize strOf (encL (waitL all)) = s1 at *
        generalize strOf (encL (doneL all)) = s0 at *
        go_wp2_with fail
        refine (refEncode_any A4 C4 all _ R4'.out hlt.out (by omega)).mono ?_
        rintro e w4 ⟨rfl, rfl⟩
        clear R4'
        generalize strOf (encL all) = s2 at *
        go_wp2_with fail
        have hen4 : EnSt eb (waitL all) all.length true (w3.alloc (.cells #[.int .u8 1] 5)) := by
          obtain ⟨v, h1, h2⟩ := HEN3.out
          exact ⟨v, (Below.heap_alloc _ _ _ (by omega)).trans h1, h2.alloc _⟩
        have HEN4 := Lib.hid hen4
        clear hen4
        refine (writer_closed eb (waitL all) all.length _ _ _ _ HEN4.out).mono ?_
        rintro e w4 ⟨rfl, rfl⟩
        go_wp2_with fail
        refine (close_closed eb (waitL all) all.length _ HEN4.out).mono ?_
        rintro e w4 ⟨rfl, rfl⟩
        go_wp2_with fail
        refine (len_any eb (waitL all) all.length _ _ HEN4.out).mono ?_
        rintro e w4 ⟨rfl, rfl⟩
        go_wp2_with fail
        go_ret
        exact ⟨rfl, HB3.alloc HB3.size _⟩
  · have hd : decide ((30 : Int) < (ls.length : Int)) = true := decide_eq_true (by omega)
    go_enter Try.func7, Try.ntmps7
    go_wp2_with fail
    refine (known_any _).mono ?_
    rintro e w1 ⟨rfl, b1⟩
    go_wp2_with fail
    refine (known_any _).mono ?_
    rintro e w2 ⟨rfl, b2⟩
    go_wp2_with fail
    go_ret
    exact ⟨rfl, b1.trans (b2.mono b1.size)⟩

/-- What the row's opening tells of a slice of slices of integers. -/
def IsRows (k : IntKind) (w : World) (a : Option Addr) (len : Nat) : Prop :=
  (a = none ∧ len = 0) ∨ ∃ (x : Addr) (A : Nat → Option Addr) (L C : Nat → Nat) (Z : Nat → List Int), a = some x ∧ ∀ r, r < len → w.cell? (x.add r) = some (.slice (A r) (L r) (C r)) ∧ IsRow k w (A r) (L r) (C r) (Z r)

theorem list_of {α : Type} {d : α} {P : Nat → α → Prop} : ∀ n, (∀ r, r < n → ∃ l, P r l) → ∃ ls : List α, ls.length = n ∧ ∀ r, r < n → P r (ls.getD r d)
  | 0, _ => ⟨[], rfl, fun r h => by omega⟩
  | n + 1, h => by
    obtain ⟨ls, h1, h2⟩ := list_of n (fun r hr => h r (by omega))
    obtain ⟨l, hl⟩ := h n (by omega)
    refine ⟨ls ++ [l], by simp [h1], fun r hr => ?_⟩
    by_cases e : r < n
    · rw [List.getD_eq_getElem?_getD, List.getElem?_append_left (by omega), ← List.getD_eq_getElem?_getD]
      exact h2 r e
    · obtain rfl : r = n := by omega
      rw [List.getD_eq_getElem?_getD, List.getElem?_append_right (by omega), h1]
      simpa using hl

theorem rows_in {w : World} {a : Option Addr} {len : Nat} (h : IsRows .u8 w a len) : ∃ ls : List (List Nat), ls.length = len ∧ RowsIn w a ls := by
  rcases h with ⟨rfl, rfl⟩ | ⟨x, A, L, C, Z, rfl, h⟩
  · exact ⟨[], rfl, fun i hi => by simp at hi⟩
  · obtain ⟨ls, h1, h2⟩ := list_of (d := []) (P := fun r (l : List Nat) => l.length = L r ∧ (∀ x ∈ l, x < 256) ∧ Reads w (A r) l) len (fun r hr => by
      obtain ⟨l, e1, e2, e3, _⟩ := isRow_reads (h r hr).2
      exact ⟨l, e1, e2, e3⟩)
    refine ⟨ls, h1, fun i hi => ?_⟩
    rw [h1] at hi
    obtain ⟨hc, hrow⟩ := h i hi
    obtain ⟨e1, e2, e3⟩ := h2 i hi
    have h0 := (h 0 (by omega)).1
    have hspot := World.cell?_spot h0
    have hx : x.spot = none := by
      unfold Addr.add at hspot
      split at hspot <;> simp_all
    obtain ⟨b, off, spot⟩ := x
    simp only at hx
    subst hx
    have hplain : (⟨b, off, none⟩ : Addr).add i = ⟨b, off + i, none⟩ := by unfold Addr.add; split <;> simp_all
    rw [hplain] at hc
    refine ⟨b, off, rfl, block_lt_of_cell hc, A i, C i, ?_, e3, isRow_nil hrow, e2⟩
    rw [hc, e1]

theorem isRow_of {k : IntKind} {w : World} {A : Option Addr} {L C : Nat} {Z : List Int} {base : Nat} (h1 : L ≤ C) (h2 : C ≤ maxLen) (h3 : Z.length = C) (h4 : ∀ n ∈ Z, (Lit.int k n).wf = true) (h5 : A = none → C = 0)
    (h6 : ∀ a', A = some a' → base ≤ a'.block ∧ ∀ c, c < C → w.cell? (a'.add c) = some (.int k (Z.getD c 0))) : IsRow k w A L C Z := by
  cases A with
  | none =>
    have := h5 rfl
    subst this
    exact .inl ⟨rfl, by omega, rfl, List.length_eq_zero_iff.1 h3⟩
  | some a => exact .inr ⟨a, rfl, h1, h2, h3, fun i hi => (h6 a rfl).2 i (by omega), h4⟩

end Go.Proofs.Ytpooaondhpfkmaa
