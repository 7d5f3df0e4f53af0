/- Base64: the Encoder's methods, by a walk through their text. -/
import Derived.Test.YtpooaondhpfkmaaRef
import Derived.Deep.DeepCutAuto
namespace Go.Proofs.Ytpooaondhpfkmaa
open Go.RowKit Go.Maps

theorem Reads.grown {w w' : World} {A : Option Addr} {l : List Nat} {row : Option Nat} (h : Reads w A l) (hg : w.grownBy w' row) (hne : l ≠ [] → ∀ a, A = some a → some a.block ≠ row) : Reads w' A l := by
  by_cases h0 : l = []
  · exact .inl h0
  · rcases h with h | ⟨b, off, h1, h2, h3⟩
    · exact .inl h
    · exact .inr ⟨b, off, h1, Nat.lt_of_lt_of_le h2 hg.size, fun i hi => (World.cell?_of_block (w := w) (a := ⟨b, off + i, none⟩) (hg.block b h2 (hne h0 _ h1))).trans (h3 i hi)⟩

theorem Reads.drop {w : World} {A : Option Addr} {l : List Nat} (h : Reads w A l) (m : Nat) (hm : m < l.length) : ∃ b off, A = some ⟨b, off, none⟩ ∧ Reads w (some ⟨b, off + m, none⟩) (l.drop m) := by
  rcases h with rfl | ⟨b, off, rfl, hb, hc⟩
  · simp at hm
  · refine ⟨b, off, rfl, .inr ⟨b, off + m, rfl, hb, fun i hi => ?_⟩⟩
    rw [List.length_drop] at hi
    rw [Nat.add_assoc, hc (m + i) (by omega)]
    rw [List.getD_eq_getElem?_getD, List.getD_eq_getElem?_getD, List.getElem?_drop]

theorem row_reads {w : World} {base : Nat} {v : Value} {o : List Nat} (h : w.ownsRow base 5 1 v o.length (vals o)) :
    ∃ A cap, v = .slice A o.length cap ∧ Reads w A o ∧ (A = none → cap = 0) ∧ (∀ a, A = some a → base ≤ a.block ∧ a.block < w.heap.size ∧ a.off = 0 ∧ a.spot = none) ∧ o.length ≤ cap := by
  obtain ⟨A, cap, hv, hr⟩ := reads_of_row h
  refine ⟨A, cap, hv, hr, ?_⟩
  obtain ⟨h1, h2⟩ := h
  rcases h2 with ⟨rfl, h0⟩ | ⟨g, cap', cur, rfl, hg, hh, hn, hc, hcur, ht⟩
  · simp only [Value.slice.injEq] at hv
    obtain ⟨rfl, h3, rfl⟩ := hv
    exact ⟨fun _ => rfl, (fun a e => by cases e), by omega⟩
  · simp only [Value.slice.injEq] at hv
    obtain ⟨rfl, _, rfl⟩ := hv
    refine ⟨(fun e => by cases e), fun a e => ?_, hn⟩
    obtain rfl := Option.some.inj e
    exact ⟨hg, lt_of_block hh, rfl, rfl⟩

theorem slice_from (A : Option Addr) (n cap m : Nat) (hm : m ≤ n) (w : World) : (Instr.slice 22 (.slice A n cap) (some (.int .i64 m)) none none).run Try.prog w = .ok (.slice (if cap = m then A else A.map (·.add (m * 1))) (n - m) (cap - m)) w := by
  rw [run_slice_l w 22 A n cap Try.underlying22 .i64 (m : Int) (by omega) (by omega)]
  have e : Try.prog.elem 22 = 5 := by kernel_rfl
  rw [e, Try.sizeOf5]
  simp [Result.andThen, sliced]

theorem reads_sliced {w : World} {A : Option Addr} {l : List Nat} (h : Reads w A l) (m cap : Nat) (hm : m ≤ l.length) (hc : l.length ≤ cap) (h0 : ∀ a, A = some a → a.off = 0 ∧ a.spot = none) : Reads w (if cap = m then A else A.map (·.add (m * 1))) (l.drop m) := by
  by_cases hlt : m < l.length
  · rcases h with rfl | ⟨b, off, rfl, hb, hcell⟩
    · simp at hlt
    · rw [if_neg (by omega)]
      have hp : ((⟨b, off, none⟩ : Addr).add (m * 1)) = ⟨b, off + m, none⟩ := by unfold Addr.add; split <;> simp_all
      refine .inr ⟨b, off + m, by rw [Option.map_some, hp], hb, fun i hi => ?_⟩
      rw [List.length_drop] at hi
      rw [Nat.add_assoc, hcell (m + i) (by omega)]
      rw [List.getD_eq_getElem?_getD, List.getD_eq_getElem?_getD, List.getElem?_drop]
  · exact .inl (by rw [List.drop_eq_nil_of_le (by omega)])

theorem row_mono {w : World} {base base' : Nat} {v : Value} {n : Nat} {xs : List Value} (h : w.ownsRow base 5 1 v n xs) (hb : base' ≤ base) : w.ownsRow base' 5 1 v n xs := by
  obtain ⟨h1, h2⟩ := h
  rcases h2 with h2 | ⟨g, cap, cur, hv, hg, r⟩
  · exact ⟨h1, .inl h2⟩
  · exact ⟨h1, .inr ⟨g, cap, cur, hv, by omega, r⟩⟩

theorem row_blk {w : World} {base : Nat} {a : Addr} {n cap : Nat} {k : Nat} {xs : List Value} (h : w.ownsRow base 5 1 (.slice (some a) n cap) k xs) : base ≤ a.block ∧ a.block < w.heap.size := by
  obtain ⟨h1, h2⟩ := h
  rcases h2 with ⟨h2, _⟩ | ⟨g, cap, cur, hv, hg, hh, _⟩
  · cases h2
  · simp only [Value.slice.injEq, Option.some.injEq] at hv
    obtain ⟨rfl, _, _⟩ := hv
    exact ⟨hg, lt_of_block hh⟩

theorem grown_of_below {w w' : World} (h : Below w.heap.size w w') : w.grownBy w' none := ⟨h.os, h.tape, h.output, h.size, fun k hk _ => h.block k hk⟩

/-- An Encoder in block b: the bytes that wait, how many came, is it closed. -/
structure EnSt (b : Nat) (rest : List Nat) (n : Nat) (closed : Bool) (w : World) : Prop where
  at_ : ∃ v, w.heap[b]? = some (.cells #[v, .int .i64 n, .bool closed] 47 (0, 0)) ∧ w.ownsRow (b + 1) 5 1 v rest.length (vals rest)

theorem newEncoder_any (w : World) : Calls Try.prog 15 #[] w fun e w' => e = .returned (.pointer (some ⟨w.heap.size, 0, none⟩)) ∧ EnSt w.heap.size [] 0 false w' ∧ Below w.heap.size w w' ∧ w.heap.size < w'.heap.size := by
  go_enter Try.func15, Try.ntmps15
  go_wp2
  go_ret
  refine ⟨rfl, ⟨_, heap_alloc_new _ _, World.ownsRow_nil _ _ _ _⟩, (Below.refl _ _).alloc (Nat.le_refl _) _, by simp⟩

theorem writer_closed (b : Nat) (rest : List Nat) (n : Nat) (A : Option Addr) (len cap : Nat) (w : World) (h : EnSt b rest n true w) :
    Calls Try.prog 16 #[.pointer (some ⟨b, 0, none⟩), .slice A len cap] w fun e w' => e = .returned (.tuple #[.string ⟨#[]⟩, .int .i64 10]) ∧ w = w' := by
  obtain ⟨v, hb, _⟩ := h.at_
  have c2 : w.cell? ⟨b, 2, none⟩ = some (.bool true) := by simp [World.cell?, hb]
  clear hb
  go_enter Try.func16, Try.ntmps16
  go_wp2
  go_ret2
  exact ⟨rfl, rfl⟩

theorem len_any (b : Nat) (rest : List Nat) (n : Nat) (c : Bool) (w : World) (h : EnSt b rest n c w) :
    Calls Try.prog 17 #[.pointer (some ⟨b, 0, none⟩)] w fun e w' => e = .returned (.int .i64 n) ∧ w = w' := by
  obtain ⟨v, hb, _⟩ := h.at_
  have c1 : w.cell? ⟨b, 1, none⟩ = some (.int .i64 n) := by simp [World.cell?, hb]
  clear hb
  go_enter Try.func17, Try.ntmps17
  go_wp2
  go_ret
  exact ⟨rfl, rfl⟩

theorem close_closed (b : Nat) (rest : List Nat) (n : Nat) (w : World) (h : EnSt b rest n true w) :
    Calls Try.prog 18 #[.pointer (some ⟨b, 0, none⟩)] w fun e w' => e = .returned (.tuple #[.string ⟨#[]⟩, .int .i64 10]) ∧ w = w' := by
  obtain ⟨v, hb, _⟩ := h.at_
  have c2 : w.cell? ⟨b, 2, none⟩ = some (.bool true) := by simp [World.cell?, hb]
  clear hb
  go_enter Try.func18, Try.ntmps18
  go_wp2
  go_ret2
  exact ⟨rfl, rfl⟩

theorem close_any (b : Nat) (rest : List Nat) (n : Nat) (w : World) (h : EnSt b rest n false w) (hl : ∀ x ∈ rest, x < 256) (hlen : rest.length ≤ 3) :
    Calls Try.prog 18 #[.pointer (some ⟨b, 0, none⟩)] w fun e w' => e = .returned (.tuple #[.string (strOf (encL rest)), .int .i64 0]) ∧ EnSt b rest n true w' ∧ w.grownBy w' (some b) := by
  obtain ⟨v, hb, hown⟩ := h.at_
  obtain ⟨A0, cap0, rfl, R0, hnil0, hbl0, hcap0⟩ := row_reads hown
  have hlt := lt_of_block hb
  have c0 : w.cell? ⟨b, 0, none⟩ = some (.slice A0 rest.length cap0) := by simp [World.cell?, hb]
  have c2 : w.cell? ⟨b, 2, none⟩ = some (.bool false) := by simp [World.cell?, hb]
  have f2 : w.frozen? ⟨b, 2, none⟩ = false := by simp [World.frozen?, hb]
  have hW1 : (w.setCell ⟨b, 2, none⟩ (.bool true)).heap[b]? = some (.cells #[.slice A0 rest.length cap0, .int .i64 n, .bool true] 47 (0, 0)) := by
    have h' : w.heap[b] = .cells #[.slice A0 rest.length cap0, .int .i64 n, .bool false] 47 (0, 0) := by simpa [Array.getElem?_eq_getElem hlt] using hb
    show (w.heap.modify b _)[b]? = _
    rw [Array.getElem?_eq_getElem (by simpa using hlt), Array.getElem_modify_self, h']
    rfl
  have g1 : w.grownBy (w.setCell ⟨b, 2, none⟩ (.bool true)) (some b) := ⟨rfl, rfl, rfl, by simp [World.setCell], fun k _ hk => Below.heap_setCell _ _ _ _ (fun e => hk (by simp [e]))⟩
  have R1 : Reads (w.setCell ⟨b, 2, none⟩ (.bool true)) A0 rest := R0.grown g1 (fun _ a e => by have := hbl0 a e; intro h; simp at h; omega)
  have o1 := hown.kept g1 (by
      cases hA : A0 with
      | none => left; rfl
      | some a =>
        right
        have := (row_blk (hA ▸ hown)).1
        simp [Value.ownBlock]
        omega)
  have c0' : (w.setCell ⟨b, 2, none⟩ (.bool true)).cell? ⟨b, 0, none⟩ = some (.slice A0 rest.length cap0) := by simp [World.cell?, hW1]
  have HW1 := Lib.hid hW1
  have G1 := Lib.hid g1
  have R1' := Lib.hid R1
  have O1 := Lib.hid o1
  have HL := Lib.hid hl
  clear hb h hl hnil0 hbl0 hW1 hown g1 R1 R0 o1
  go_enter Try.func18, Try.ntmps18
  go_wp2_with fail
  refine (encode_any A0 cap0 rest _ R1'.out HL.out (by omega)).mono ?_
  rintro e w9 ⟨rfl, b9⟩
  go_wp2_with fail
  go_ret2
  have h9 := O1.out.kept (grown_of_below b9) (by cases (Value.slice A0 rest.length cap0).ownBlock <;> simp)
  have g1 := G1.out
  refine ⟨rfl, ⟨_, (b9.block b (by have := g1.size; omega)).trans HW1.out, h9⟩, ?_⟩
  refine ⟨by rw [b9.os, g1.os], by rw [b9.tape, g1.tape], by rw [b9.output, g1.output], ?_, fun k hk hkb => ?_⟩
  · have := b9.size; have := g1.size; omega
  · have s1 := g1.size
    rw [b9.block k (by omega), g1.block k hk hkb]

set_option maxHeartbeats 2000000 in
theorem writer_any (b : Nat) (rest : List Nat) (n : Nat) (A : Option Addr) (l : List Nat) (cap : Nat) (w : World) (h : EnSt b rest n false w) (hr : Reads w A l) (hnil : A = none → cap = 0) (hne : l ≠ [] → ∀ a, A = some a → some a.block ≠ some b)
    (hl : ∀ x ∈ l, x < 256) (hl2 : ∀ x ∈ rest, x < 256) (hlen : rest.length ≤ 3) (hn : n + l.length ≤ 131072) :
    Calls Try.prog 16 #[.pointer (some ⟨b, 0, none⟩), .slice A l.length cap] w fun e w' => e = .returned (.tuple #[.string (strOf (encL ((rest ++ l).take ((rest.length + l.length) / 3 * 3)))), .int .i64 0]) ∧
      (∃ v, w'.heap[b]? = some (.cells #[v, .int .i64 (n + l.length : Nat), .bool false] 47 (0, 0)) ∧ w'.ownsRow w.heap.size 5 1 v ((rest ++ l).drop ((rest.length + l.length) / 3 * 3)).length (vals ((rest ++ l).drop ((rest.length + l.length) / 3 * 3)))) ∧ w.grownBy w' (some b) := by
  obtain ⟨v, hb, hown⟩ := h.at_
  obtain ⟨A0, cap0, rfl, R0, hnil0, hbl0, hcap0⟩ := row_reads hown
  have hlt := lt_of_block hb
  have hcells : ∀ (W : World) (x : Value), W.heap[b]? = some (.cells #[.slice A0 rest.length cap0, x, .bool false] 47 (0, 0)) → W.cell? ⟨b, 0, none⟩ = some (.slice A0 rest.length cap0) ∧ W.cell? ⟨b, 1, none⟩ = some x ∧ W.cell? ⟨b, 2, none⟩ = some (.bool false) ∧ W.frozen? ⟨b, 0, none⟩ = false ∧ W.frozen? ⟨b, 1, none⟩ = false := by
    intro W x hW
    simp [World.cell?, World.frozen?, hW]
  obtain ⟨c0, c1, c2, f0, f1⟩ := hcells w _ hb
  have hW1 : (w.setCell ⟨b, 1, none⟩ (.int .i64 ((n : Int) + l.length))).heap[b]? = some (.cells #[.slice A0 rest.length cap0, .int .i64 ((n : Int) + l.length), .bool false] 47 (0, 0)) := by
    have h' : w.heap[b] = .cells #[.slice A0 rest.length cap0, .int .i64 n, .bool false] 47 (0, 0) := by simpa [Array.getElem?_eq_getElem hlt] using hb
    show (w.heap.modify b _)[b]? = _
    rw [Array.getElem?_eq_getElem (by simpa using hlt), Array.getElem_modify_self, h']
    rfl
  have g1 : w.grownBy (w.setCell ⟨b, 1, none⟩ (.int .i64 ((n : Int) + l.length))) (some b) := ⟨rfl, rfl, rfl, by simp [World.setCell], fun k _ hk => Below.heap_setCell _ _ _ _ (fun e => hk (by simp [e]))⟩
  have hsz1 : (w.setCell ⟨b, 1, none⟩ (.int .i64 ((n : Int) + l.length))).heap.size = w.heap.size := by simp
  have hd : decide ((131072 : Int) - (n : Int) < (l.length : Int)) = false := decide_eq_false (by omega)
  have HCELLS := Lib.hid hcells
  have HNE := Lib.hid hne
  have HNIL := Lib.hid hnil
  have HL := Lib.hid hl
  have HL2 := Lib.hid hl2
  have HNIL0 := Lib.hid hnil0
  have HR := Lib.hid hr
  have HBL := Lib.hid hbl0
  have G1 := Lib.hid g1
  have HW1 := Lib.hid hW1
  clear hb h hcells hne hnil hl hl2 hnil0 hr hbl0 hW1 hown g1
  go_enter Try.func16, Try.ntmps16
  go_upto_region 8 with (fail)
  clear c0 c1 c2 f0 f1
  generalize w.setCell ⟨b, 1, none⟩ (.int .i64 ((n : Int) + l.length)) = W1 at *
  have HSZ := Lib.hid hsz1
  have hb1 : b < W1.heap.size := by omega
  clear hsz1
  have R0' : Reads W1 A0 rest := R0.grown G1.out (fun _ a e => by have := HBL.out a e; intro h; simp at h; omega)
  have R1' : Reads W1 A l := HR.out.grown G1.out HNE.out
  have hb2 : (W1.alloc (.cells #[] 5)).heap[b]? = some (.cells #[.slice A0 rest.length cap0, .int .i64 ((n : Int) + l.length), .bool false] 47 (0, 0)) := by
    rw [Below.heap_alloc _ _ _ (by omega)]; exact HW1.out
  obtain ⟨c0, c1, c2, f0, f1⟩ := HCELLS.out _ _ hb2
  have HB2 := Lib.hid hb2
  clear hb2
  have o1 : (W1.alloc (.cells #[] 5)).ownsRow W1.heap.size 5 1 (.slice (some ⟨W1.heap.size, 0, none⟩) 0 0) 0 (vals []) :=
    ⟨rfl, .inr ⟨W1.heap.size, 0, #[], rfl, Nat.le_refl _, heap_alloc_new _ _, by simp, by simp [maxLen], rfl, rfl⟩⟩
  have hbA : W1.grownBy (W1.alloc (.cells #[] 5)) none := World.grownBy_alloc W1 _ none
  go_wp2_with (at_builtin; refine wpList_append_reads rfl _ _ rfl W1.heap.size _ [] rest rfl o1 A0 cap0 rfl ?c2 ?c3 ?c4 ?c5 ?_)
  case c2 => exact R0'.grown hbA (fun _ a _ => by simp)
  case c3 => exact HNIL0.out
  case c4 => simp; omega
  case c5 => simp
  intro v4 w4 o4 g4
  have B4 : Below W1.heap.size W1 w4 := ((Below.refl _ _).alloc (Nat.le_refl _) (.cells #[] 5)).grown g4 (by simp) (fun k hk => (o1.lt k hk).1)
  have o4' : w4.ownsRow W1.heap.size 5 1 v4 rest.length (vals rest) := by simpa using o4
  clear o4 o1 g4 c0 c1 c2 f0 f1 HB2
  go_wp2_with (at_builtin; refine wpList_append_reads rfl _ _ rfl W1.heap.size _ rest l rfl o4' A cap rfl ?c2 ?c3 ?c4 ?c5 ?_)
  case c2 => exact R1'.below B4
  case c3 => exact HNIL.out
  case c4 => omega
  case c5 => exact B4.size
  intro v5 w5 o5 g5
  have B5 : Below W1.heap.size W1 w5 := B4.grown g5 B4.size (fun k hk => (o4'.lt k hk).1)
  have o5' : w5.ownsRow W1.heap.size 5 1 v5 (rest ++ l).length (vals (rest ++ l)) := by first | exact o5 | (rw [List.length_append]; exact o5)
  clear o5 o4' g5 B4 R0' R1'
  obtain ⟨A5, cap5, rfl, R5, hnil5, hbl5, hcap5⟩ := row_reads o5'
  clear o5'
  have hLT : Hid (∀ x ∈ rest ++ l, x < 256) := by
    intro x hx
    rcases List.mem_append.1 hx with h | h
    · exact HL2.out x h
    · exact HL.out x h
  have hlen5 : (rest ++ l).length = rest.length + l.length := List.length_append
  have HLEN := Lib.hid hlen5
  rw [hlen5] at hcap5 ⊢
  clear hlen5
  obtain ⟨m, hm⟩ : ∃ m : Nat, m = (rest.length + l.length) / 3 * 3 := ⟨_, rfl⟩
  have hm1 : ((rest.length : Int) + (l.length : Int)) / 3 * 3 = (m : Int) := by omega
  have hm2 : m ≤ rest.length + l.length := by omega
  have HM := Lib.hid hm
  clear hm
  have hsl := slice_from A5 (rest.length + l.length) cap5 m hm2
  have hRB := reads_sliced R5 m cap5 (by rw [HLEN.out]; exact hm2) (by rw [HLEN.out]; exact hcap5) (fun a e => ⟨(hbl5 a e).2.2.1, (hbl5 a e).2.2.2⟩)
  have hnilB : (if cap5 = m then A5 else A5.map (·.add (m * 1))) = none → cap5 - m = 0 := by
    intro h
    have : A5 = none := by
      split at h
      · exact h
      · cases A5 with
        | none => rfl
        | some a => simp at h
    have := hnil5 this
    omega
  generalize (if cap5 = m then A5 else A5.map (·.add (m * 1))) = A6 at *
  have RT := Lib.hid (R5.take m)
  have RB := Lib.hid hRB
  have NB := Lib.hid hnilB
  have N5 := Lib.hid hnil5
  have BL5 := Lib.hid hbl5
  have R5' := Lib.hid R5
  clear hRB hnilB hnil5 hbl5 R5
  have hb5 : w5.heap[b]? = some (.cells #[.slice A0 rest.length cap0, .int .i64 ((n : Int) + l.length), .bool false] 47 (0, 0)) := (B5.block b hb1).trans HW1.out
  obtain ⟨c0, c1, c2, f0, f1⟩ := HCELLS.out _ _ hb5
  have HB5 := Lib.hid hb5
  clear hb5
  go_upto_region 10 with (fail)
  have o6 : (w5.alloc (.cells #[] 5)).ownsRow w5.heap.size 5 1 (.slice (some ⟨w5.heap.size, 0, none⟩) 0 0) 0 (vals []) :=
    ⟨rfl, .inr ⟨w5.heap.size, 0, #[], rfl, Nat.le_refl _, heap_alloc_new _ _, by simp, by simp [maxLen], rfl, rfl⟩⟩
  have hbB : Below w5.heap.size w5 (w5.alloc (.cells #[] 5)) := (Below.refl _ _).alloc (Nat.le_refl _) _
  clear c0 c1 c2 f0 f1
  go_wp2_with (at_builtin; refine wpList_append_reads rfl _ _ rfl w5.heap.size _ [] ((rest ++ l).drop m) rfl o6 A6 (cap5 - m) ?c1 ?c2 ?c3 ?c4 ?c5 ?_)
  case c1 => rw [List.length_drop, HLEN.out]; rfl
  case c2 => exact RB.out.below hbB
  case c3 => exact NB.out
  case c4 => rw [List.length_drop, HLEN.out]; simp; omega
  case c5 => simp
  intro v7 w7 o7 g7
  have B7 : Below w5.heap.size w5 w7 := hbB.grown g7 (by simp) (fun k hk => (o6.lt k hk).1)
  have o7' : w7.ownsRow w5.heap.size 5 1 v7 ((rest ++ l).drop m).length (vals ((rest ++ l).drop m)) := by
    first | exact o7 | (rw [List.length_drop, HLEN.out]; simpa using o7)
  obtain ⟨A7, cap7, rfl, _⟩ := row_reads o7'
  have O7 := Lib.hid o7'
  clear o7 o7' g7 hbB o6
  have hs5 : W1.heap.size ≤ w5.heap.size := B5.size
  have hb7 : w7.heap[b]? = some (.cells #[.slice A0 rest.length cap0, .int .i64 ((n : Int) + l.length), .bool false] 47 (0, 0)) := (B7.block b (by omega)).trans HB5.out
  obtain ⟨c0, c1, c2, f0, f1⟩ := HCELLS.out _ _ hb7
  have HB7 := Lib.hid hb7
  clear hb7
  obtain ⟨n7, hn7⟩ : ∃ n7, n7 = ((rest ++ l).drop m).length := ⟨_, rfl⟩
  have HN7 := Lib.hid hn7
  rw [← hn7]
  clear hn7
  go_upto_region 11 with (fail)
  have hlt7 : b < w7.heap.size := by have := B7.size; omega
  have hb8 : (w7.setCell ⟨b, 0, none⟩ (.slice A7 n7 cap7)).heap[b]? = some (.cells #[.slice A7 n7 cap7, .int .i64 ((n : Int) + l.length), .bool false] 47 (0, 0)) := by
    have h' : w7.heap[b] = .cells #[.slice A0 rest.length cap0, .int .i64 ((n : Int) + l.length), .bool false] 47 (0, 0) := by have := HB7.out; simpa [Array.getElem?_eq_getElem hlt7] using this
    show (w7.heap.modify b _)[b]? = _
    rw [Array.getElem?_eq_getElem (by simpa using hlt7), Array.getElem_modify_self, h']
    rfl
  have g8 : w7.grownBy (w7.setCell ⟨b, 0, none⟩ (.slice A7 n7 cap7)) (some b) := ⟨rfl, rfl, rfl, by simp [World.setCell], fun k _ hk => Below.heap_setCell _ _ _ _ (fun e => hk (by simp [e]))⟩
  have H8 := Lib.hid hb8
  have G8 := Lib.hid g8
  clear hb8 g8 c0 c1 c2 f0 f1
  generalize w7.setCell ⟨b, 0, none⟩ (.slice A7 n7 cap7) = w8 at *
  have RT8 : Reads w8 A5 ((rest ++ l).take m) := by
    have h7 := RT.out.below (B7.mono (Nat.le_refl _))
    refine h7.grown G8.out (fun _ a e h => ?_)
    have h1 := (BL5.out a e).1
    simp at h
    omega
  have hmt : ((rest ++ l).take m).length = m := by rw [List.length_take, HLEN.out]; omega
  have E := encode_any A5 cap5 ((rest ++ l).take m) w8 RT8 (fun x hx => hLT.out x (List.mem_of_mem_take hx)) (by rw [hmt]; omega)
  rw [hmt] at E
  clear hmt
  have E' := Lib.hid E
  clear E
  go_wp2_with fail
  refine E'.out.mono ?_
  rintro e w9 ⟨rfl, b9⟩
  go_wp2_with fail
  go_ret2
  rw [← HM.out]
  refine ⟨rfl, ⟨.slice A7 n7 cap7, ?_, ?_⟩, ?_⟩
  · have h8 := H8.out
    have : w9.heap[b]? = w8.heap[b]? := b9.block b (by have := G8.out.size; omega)
    rw [this, h8]
    rw [show ((n + l.length : Nat) : Int) = (n : Int) + l.length from by omega]
  · have h7 := O7.out
    rw [HN7.out]
    have h8 := h7.kept G8.out (by
      cases hA : A7 with
      | none => left; rfl
      | some a =>
        right
        have := (row_blk (hA ▸ h7)).1
        simp [Value.ownBlock]
        omega)
    have h9 := h8.kept (grown_of_below b9) (by cases (Value.slice A7 ((rest ++ l).drop m).length cap7).ownBlock <;> simp)
    exact row_mono h9 (by have := HSZ.out; omega)
  · have h1 := G1.out
    have h8 := G8.out
    refine ⟨by rw [b9.os, h8.os, B7.os, B5.os, h1.os], by rw [b9.tape, h8.tape, B7.tape, B5.tape, h1.tape], by rw [b9.output, h8.output, B7.output, B5.output, h1.output], ?_, fun k hk hkb => ?_⟩
    · have := b9.size; have := h8.size; have := B7.size; have := B5.size; have := h1.size; omega
    · have s1 := h1.size; have s5 := B5.size; have s7 := B7.size; have s8 := h8.size
      rw [b9.block k (by omega), h8.block k (by omega) hkb, B7.block k (by omega), B5.block k (by omega), h1.block k hk hkb]
end Go.Proofs.Ytpooaondhpfkmaa
