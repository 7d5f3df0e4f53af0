/- Wildmat: the law WildmatAppends, by a walk through its text. (Three like arms, printed once by a program.) -/
import Derived.Test.YtgnmanmlnbidfaaDoorApp
import Derived.Test.YtgnmanmlnbidfaaDoorWDis
namespace Go.Proofs.YtgnmanmlnbidfaaDoor
open Go.RowKit

theorem listGo_zero : ∀ (l : List ByteArray) (acc : List (Nat × List El)) (pos : Nat), (listGo l acc pos).2.2 = 0 → (listGo l acc pos).2.1 = 0 := by
  intro l
  induction l with
  | nil => intro acc pos _; rfl
  | cons t l ih =>
    intro acc pos h
    rw [listGo] at h ⊢
    split at h
    · simp at h
    · rename_i h1
      rw [if_neg h1]
      simp only at h ⊢
      split at h
      · rename_i h2
        rw [if_pos h2]
        exact ih _ _ h
      · rename_i h2
        exact absurd h h2

theorem parse_zero {s : ByteArray} (h : (parseF s).2.2 = 0) : parseF s = ((parseF s).1, 0, 0) := by
  have h1 : (parseF s).2.1 = 0 := by
    unfold parseF at h ⊢
    split at h
    · simp at h
    · rename_i h0
      rw [if_neg h0]
      exact listGo_zero _ _ _ h
  exact Prod.ext rfl (Prod.ext h1 h)

theorem comp_zero {l : List Nat} (h : (compF l).2.2 = 0) : compF l = ((compF l).1, 0, 0) := by
  have h1 : (compF l).2.1 = 0 := by
    unfold compF at h ⊢
    split at h
    · simp at h
    · split at h
      · simp at h
      · rename_i h2 h3
        rw [if_neg h2, if_neg h3]
        simp only at h ⊢
        split at h
        · rename_i h4
          rw [if_pos h4]
        · rename_i h4
          exact absurd h h4
  exact Prod.ext rfl (Prod.ext h1 h)

theorem mark_none {l : List Nat} (h : ∀ c ∈ l, okc c = true) : markF l = (1, 0) := by
  cases l with
  | nil => rfl
  | cons c l =>
    have hc := h c (by simp)
    have h1 : c ≠ 33 := fun e => by rw [e] at hc; revert hc; decide
    have h2 : c ≠ 64 := fun e => by rw [e] at hc; revert hc; decide
    show (if c = 33 then (2, 1) else if c = 64 then (3, 1) else (1, 0)) = _
    rw [if_neg h1, if_neg h2]

theorem app_plain {s p : ByteArray} {R : List (Nat × List El)} {L : List El} (h : parseF s = (R, 0, 0)) (hR : R.length ≠ 64) (hp : compF (chars p) = (L, 0, 0)) :
    parseF (((s ++ ⟨#[44]⟩) ++ ⟨#[]⟩) ++ p) = (R ++ [(1, L)], 0, 0) ∧ parseF (((s ++ ⟨#[44]⟩) ++ ⟨#[33]⟩) ++ p) = (R ++ [(2, L)], 0, 0) ∧ parseF (((s ++ ⟨#[44]⟩) ++ ⟨#[64]⟩) ++ p) = (R ++ [(3, L)], 0, 0) := by
  have hok := comp_okc (l := chars p) (by rw [hp])
  have h44 : ∀ c ∈ chars p, c ≠ 44 := fun c hc e => by have := hok c hc; rw [e] at this; revert this; decide
  have e0 : chars (⟨#[]⟩ ++ p) = chars p := by rw [chars_append]; rfl
  have e1 : chars (⟨#[33]⟩ ++ p) = 33 :: chars p := by rw [chars_append]; rfl
  have e2 : chars (⟨#[64]⟩ ++ p) = 64 :: chars p := by rw [chars_append]; rfl
  rw [ByteArray.append_assoc (b := ⟨#[]⟩), ByteArray.append_assoc (b := ⟨#[33]⟩), ByteArray.append_assoc (b := ⟨#[64]⟩)]
  refine ⟨parse_snoc (q := 0) h hR (by rw [e0]; exact h44) (by rw [e0]; exact mark_none hok) (by rw [e0]; exact hp), parse_snoc (q := 1) h hR (by rw [e1]; intro c hc; rcases List.mem_cons.1 hc with rfl | hc; decide; exact h44 c hc) (by rw [e1]; rfl) (by rw [e1]; exact hp),
    parse_snoc (q := 1) h hR (by rw [e2]; intro c hc; rcases List.mem_cons.1 hc with rfl | hc; decide; exact h44 c hc) (by rw [e2]; rfl) (by rw [e2]; exact hp)⟩

theorem list_cases (s : ByteArray) (m : Int) (w : World) (hs : s.size ≤ 1000) (hm : w.cell? ⟨0, 0, none⟩ = some (.int .i64 m)) : Calls Tryd.prog 21 #[.string s] w fun e w' =>
    (∃ (p : Value) (a n : Nat), e = .returned (.tuple #[p, .int .i64 a, .int .i64 n]) ∧ ((n = 0 ∧ ∃ lb its A cap, p = .pointer (some ⟨lb, 0, none⟩) ∧ parseF s = (its.map itA, 0, 0) ∧ IsList w' w'.heap.size lb s its A cap) ∨ (n ≠ 0 ∧ p = .pointer none))) ∧ Below w.heap.size w w' := by
  refine (ParseList_any s m w hs hm).mono ?_
  rintro e w' ⟨⟨p, rfl, hans⟩, hB⟩
  refine ⟨⟨p, _, _, rfl, ?_⟩, hB⟩
  rcases hans with ⟨h0, lb, its, A, cap, rfl, h1, _, hl⟩ | h
  · exact .inl ⟨h0, lb, its, A, cap, rfl, by rw [h1]; exact parse_zero h0, hl⟩
  · exact .inr h

theorem comp_cases2 (s : ByteArray) (w : World) (hs : s.size ≤ 100000) : Calls Tryd.prog 12 #[.string s] w fun e w' =>
    (∃ (p : Value) (a n : Nat), e = .returned (.tuple #[p, .int .i64 a, .int .i64 n]) ∧ ((n = 0 ∧ ∃ b L A cap, p = .pointer (some ⟨b, 0, none⟩) ∧ compF (chars s) = (L, 0, 0) ∧ IsPat w' w'.heap.size b s L A cap) ∨ (n ≠ 0 ∧ p = .pointer none))) ∧ Below w.heap.size w w' := by
  refine (Compile_any s w hs).mono ?_
  rintro e w' ⟨⟨p, rfl, hans⟩, hB⟩
  refine ⟨⟨p, _, _, rfl, ?_⟩, hB⟩
  rcases hans with ⟨h0, b, A, cap, rfl, _, _, hp⟩ | h
  · exact .inl ⟨h0, b, _, A, cap, rfl, comp_zero h0, hp⟩
  · exact .inr h

set_option maxRecDepth 100000 in
set_option maxHeartbeats 8000000 in
theorem app_walk (s r n : ByteArray) (kk : Int) (m : Int) (w : World) (hm : w.cell? ⟨0, 0, none⟩ = some (.int .i64 m)) (hk0 : 0 ≤ kk) (hk1 : kk < 256) : Calls Tryd.prog 8 #[.string s, .string r, .string n, .int .u8 kk] w fun e w' => e = .returned (.bool true) ∧ Below w.heap.size w w' := by
  have HM := Lib.hid hm
  have h00 := Lib.hid (World.block_lt_of_cell? _ _ hm)
  have hts := cut_size s 400
  have hxs := cut_size r 80
  have hus := cut_size n 100
  have C1 : Hid (∀ w, Calls Tryd.prog 11 #[.string s, .int .i64 400] w fun e w' => e = .returned (.string (s.extract 0 (min s.size 400))) ∧ w = w') := Lib.hid (fun w => cut_any s 400 w)
  have C2 : Hid (∀ w, Calls Tryd.prog 11 #[.string r, .int .i64 80] w fun e w' => e = .returned (.string (r.extract 0 (min r.size 80))) ∧ w = w') := Lib.hid (fun w => cut_any r 80 w)
  have C3 : Hid (∀ w, Calls Tryd.prog 11 #[.string n, .int .i64 100] w fun e w' => e = .returned (.string (n.extract 0 (min n.size 100))) ∧ w = w') := Lib.hid (fun w => cut_any n 100 w)
  generalize s.extract 0 (min s.size 400) = t at *
  generalize r.extract 0 (min r.size 80) = x at *
  generalize n.extract 0 (min n.size 100) = u at *
  clear hm
  go_enter Tryd.func8, Tryd.ntmps8
  go_wp2_with fail
  refine (C1.out _).mono ?_
  rintro e w1 ⟨rfl, rfl⟩
  go_wp2_with fail
  refine (C2.out _).mono ?_
  rintro e w1 ⟨rfl, rfl⟩
  go_wp2_with fail
  refine (C3.out _).mono ?_
  rintro e w1 ⟨rfl, rfl⟩
  clear C1 C2 C3
  go_wp2_with fail
  refine (list_cases t m _ (by omega) HM.out).mono ?_
  rintro e w1 ⟨⟨p1, a1, n1, rfl, h1⟩, b1⟩
  have H1 := Lib.hid h1
  have B1 := Lib.hid b1
  clear b1 h1
  go_wp2_with fail
  refine (comp_cases2 x _ (by omega)).mono ?_
  rintro e w2 ⟨⟨p2, a2, n2, rfl, h2⟩, b2⟩
  have H2 := Lib.hid h2
  have B2 := Lib.hid (B1.out.trans (b2.mono B1.out.size))
  have b2' := Lib.hid b2
  clear b2 h2
  rcases H1.out with ⟨rfl, lb, its, A1, cap1, rfl, hps, hl1⟩ | ⟨hn1, rfl⟩
  · rcases H2.out with ⟨rfl, b2, L2, A2, cap2, rfl, hpc, hp2⟩ | ⟨hn2, rfl⟩
    · have HL1 := Lib.hid (hl1.later b2'.out)
      have HP2 := Lib.hid hp2
      have HPS := Lib.hid hps
      have HPC := Lib.hid hpc
      have hlen := hl1.len
      clear H1 H2 hl1 hp2 hps hpc
      go_wp2_with fail
      refine (known_any m _ (cell_later0 HM.out B2.out h00.out)).mono ?_
      rintro e w3 ⟨rfl, b3⟩
      have B3 := Lib.hid (B2.out.trans (b3.mono B2.out.size))
      have HL3 := Lib.hid (HL1.out.later b3)
      have HP3 := Lib.hid (HP2.out.later b3)
      clear b3 HL1 HP2
      go_wp2_with fail
      refine (Len_any _ _ _ _ _ _ HL3.out).mono ?_
      rintro e w4 ⟨rfl, b4⟩
      have B4 := Lib.hid (B3.out.trans (b4.mono B3.out.size))
      have HL4 := Lib.hid (HL3.out.later b4)
      have HP4 := Lib.hid (HP3.out.later b4)
      clear b4 HL3 HP3
      by_cases hf : its.length = 64
      · have hge : (64 : Int) ≤ (its.length : Int) := by omega
        have hgd : decide ((64 : Int) ≤ (its.length : Int)) = true := decide_eq_true hge
        go_wp2_with fail
        refine (known_any m _ (cell_later0 HM.out B4.out h00.out)).mono ?_
        rintro e w5 ⟨rfl, b5⟩
        have B5 := Lib.hid (B4.out.trans (b5.mono B4.out.size))
        clear b5
        go_wp2_with fail
        go_ret
        exact ⟨rfl, B5.out⟩
      · have hge : ¬ (64 : Int) ≤ (its.length : Int) := by omega
        have hgd : decide ((64 : Int) ≤ (its.length : Int)) = false := decide_eq_false hge
        have HA := Lib.hid (app_plain HPS.out (by rw [List.length_map]; exact hf) HPC.out)
        have hmod : kk.tmod 3 = 0 ∨ kk.tmod 3 = 1 ∨ kk.tmod 3 = 2 := by
          rw [Int.tmod_eq_emod_of_nonneg hk0]; omega
        have q1 : ¬ 9223372036854775807 < t.size + ByteArray.size ⟨#[44]⟩ := by show ¬ _ < t.size + 1; omega
        obtain ⟨t1, ht1⟩ : ∃ t1, t ++ (⟨#[44]⟩ : ByteArray) = t1 := ⟨_, rfl⟩
        rw [ht1] at HA
        have ht1s : t1.size = t.size + 1 := by rw [← ht1, ByteArray.size_append]; rfl
        rcases hmod with hr | hr | hr
        · have HV := Lib.hid HA.out.1
          obtain ⟨t2, ht2⟩ : ∃ t2, t1 ++ (⟨#[]⟩ : ByteArray) = t2 := ⟨_, rfl⟩
          rw [ht2] at HV
          have ht2s : t2.size ≤ t1.size + 1 := by rw [← ht2, ByteArray.size_append]; show t1.size + 0 ≤ _; omega
          have q2 : ¬ 9223372036854775807 < t1.size + ByteArray.size ⟨#[]⟩ := by show ¬ _ < t1.size + 0; omega
          have q3 : ¬ 9223372036854775807 < t2.size + x.size := by omega
          obtain ⟨t3, ht3⟩ : ∃ t3, t2 ++ x = t3 := ⟨_, rfl⟩
          rw [ht3] at HV
          have ht3s : t3.size ≤ 1000 := by rw [← ht3, ByteArray.size_append]; omega
          have hba : Below w4.heap.size w4 (w4.alloc (.cells #[.string ⟨#[]⟩, .string ⟨#[33]⟩, .string ⟨#[64]⟩] 9)) := (Below.refl _ _).alloc (Nat.le_refl _) _
          have B4a := Lib.hid (B4.out.trans (hba.mono B4.out.size))
          have HL4a := Lib.hid (HL4.out.later hba)
          have HP4a := Lib.hid (HP4.out.later hba)
          clear HA hba
          go_wp2_with fail
          refine (list_some t3 m _ ht3s (cell_later0 HM.out B4a.out h00.out) (by rw [HV.out])).mono ?_
          rintro e w5 ⟨⟨lb2, its2, A5, cap5, rfl, hits2, hl5⟩, b5⟩
          rw [HV.out] at hits2
          have hlen2 : its2.length = its.length + 1 := by
            have := congrArg List.length hits2
            simpa using this
          have HI2 := Lib.hid hits2
          have HL5 := Lib.hid hl5
          have B5 := Lib.hid (B4a.out.trans (b5.mono B4a.out.size))
          have HLa := Lib.hid (HL4a.out.later b5)
          have HPa := Lib.hid (HP4a.out.later b5)
          have hne : ((its2.length : Int) != (its.length : Int) + 1) = false := by rw [hlen2]; simp
          clear b5 hl5 hits2 HL4 HP4 HL4a HP4a ht1 ht2 ht3 q1 q2 q3
          go_wp2_with fail
          refine (Len_any _ _ _ _ _ _ HL5.out).mono ?_
          rintro e w6 ⟨rfl, b6⟩
          have B6 := Lib.hid (B5.out.trans (b6.mono B5.out.size))
          have HL6 := Lib.hid (HL5.out.later b6)
          have HLb := Lib.hid (HLa.out.later b6)
          have HPb := Lib.hid (HPa.out.later b6)
          clear b6 HL5 HLa HPa
          go_wp2_with fail
          refine (Len_any _ _ _ _ _ _ HLb.out).mono ?_
          rintro e w7 ⟨rfl, b7⟩
          have B7 := Lib.hid (B6.out.trans (b7.mono B6.out.size))
          have HL7 := Lib.hid (HL6.out.later b7)
          have HLc := Lib.hid (HLb.out.later b7)
          have HPc := Lib.hid (HPb.out.later b7)
          clear b7 HL6 HLb HPb
          go_wp2_with fail
          refine (Match_any _ _ _ _ _ _ _ HPc.out (by omega)).mono ?_
          rintro e w8 ⟨rfl, b8⟩
          have B8 := Lib.hid (B7.out.trans (b8.mono B7.out.size))
          have HL8 := Lib.hid (HL7.out.later b8)
          have HLd := Lib.hid (HLc.out.later b8)
          clear b8 HL7 HLc HPc
          cases hq : matchF L2 (chars u) with
          | true =>
            have HD : Hid (verdF (its2.map itA) (chars u) = 1) := Lib.hid (by rw [HI2.out, verd_snoc, if_pos hq])
            clear hq
            go_wp2_with fail
            refine (Verdict_any _ _ _ _ _ _ _ HL8.out (by omega)).mono ?_
            rintro e w9 ⟨rfl, b9⟩
            rw [HD.out]
            have B9 := Lib.hid (B8.out.trans (b9.mono B8.out.size))
            clear b9
            go_wp2_with fail
            go_ret
            exact ⟨rfl, B9.out⟩
          | false =>
            have HD : Hid (verdF (its2.map itA) (chars u) = verdF (its.map itA) (chars u)) := Lib.hid (by rw [HI2.out, verd_snoc, if_neg (by rw [hq]; simp)])
            clear hq
            go_wp2_with fail
            refine (Verdict_any _ _ _ _ _ _ _ HL8.out (by omega)).mono ?_
            rintro e w9 ⟨rfl, b9⟩
            rw [HD.out]
            have B9 := Lib.hid (B8.out.trans (b9.mono B8.out.size))
            have HLe := Lib.hid (HLd.out.later b9)
            clear b9
            go_wp2_with fail
            refine (Verdict_any _ _ _ _ _ _ _ HLe.out (by omega)).mono ?_
            rintro e w10 ⟨rfl, b10⟩
            have B10 := Lib.hid (B9.out.trans (b10.mono B9.out.size))
            clear b10
            generalize verdF (its.map itA) (chars u) = z
            go_wp2_with fail
            go_ret
            exact ⟨rfl, B10.out⟩
        · have HV := Lib.hid HA.out.2.1
          obtain ⟨t2, ht2⟩ : ∃ t2, t1 ++ (⟨#[33]⟩ : ByteArray) = t2 := ⟨_, rfl⟩
          rw [ht2] at HV
          have ht2s : t2.size ≤ t1.size + 1 := by rw [← ht2, ByteArray.size_append]; show t1.size + 1 ≤ _; omega
          have q2 : ¬ 9223372036854775807 < t1.size + ByteArray.size ⟨#[33]⟩ := by show ¬ _ < t1.size + 1; omega
          have q3 : ¬ 9223372036854775807 < t2.size + x.size := by omega
          obtain ⟨t3, ht3⟩ : ∃ t3, t2 ++ x = t3 := ⟨_, rfl⟩
          rw [ht3] at HV
          have ht3s : t3.size ≤ 1000 := by rw [← ht3, ByteArray.size_append]; omega
          have hba : Below w4.heap.size w4 (w4.alloc (.cells #[.string ⟨#[]⟩, .string ⟨#[33]⟩, .string ⟨#[64]⟩] 9)) := (Below.refl _ _).alloc (Nat.le_refl _) _
          have B4a := Lib.hid (B4.out.trans (hba.mono B4.out.size))
          have HL4a := Lib.hid (HL4.out.later hba)
          have HP4a := Lib.hid (HP4.out.later hba)
          clear HA hba
          go_wp2_with fail
          refine (list_some t3 m _ ht3s (cell_later0 HM.out B4a.out h00.out) (by rw [HV.out])).mono ?_
          rintro e w5 ⟨⟨lb2, its2, A5, cap5, rfl, hits2, hl5⟩, b5⟩
          rw [HV.out] at hits2
          have hlen2 : its2.length = its.length + 1 := by
            have := congrArg List.length hits2
            simpa using this
          have HI2 := Lib.hid hits2
          have HL5 := Lib.hid hl5
          have B5 := Lib.hid (B4a.out.trans (b5.mono B4a.out.size))
          have HLa := Lib.hid (HL4a.out.later b5)
          have HPa := Lib.hid (HP4a.out.later b5)
          have hne : ((its2.length : Int) != (its.length : Int) + 1) = false := by rw [hlen2]; simp
          clear b5 hl5 hits2 HL4 HP4 HL4a HP4a ht1 ht2 ht3 q1 q2 q3
          go_wp2_with fail
          refine (Len_any _ _ _ _ _ _ HL5.out).mono ?_
          rintro e w6 ⟨rfl, b6⟩
          have B6 := Lib.hid (B5.out.trans (b6.mono B5.out.size))
          have HL6 := Lib.hid (HL5.out.later b6)
          have HLb := Lib.hid (HLa.out.later b6)
          have HPb := Lib.hid (HPa.out.later b6)
          clear b6 HL5 HLa HPa
          go_wp2_with fail
          refine (Len_any _ _ _ _ _ _ HLb.out).mono ?_
          rintro e w7 ⟨rfl, b7⟩
          have B7 := Lib.hid (B6.out.trans (b7.mono B6.out.size))
          have HL7 := Lib.hid (HL6.out.later b7)
          have HLc := Lib.hid (HLb.out.later b7)
          have HPc := Lib.hid (HPb.out.later b7)
          clear b7 HL6 HLb HPb
          go_wp2_with fail
          refine (Match_any _ _ _ _ _ _ _ HPc.out (by omega)).mono ?_
          rintro e w8 ⟨rfl, b8⟩
          have B8 := Lib.hid (B7.out.trans (b8.mono B7.out.size))
          have HL8 := Lib.hid (HL7.out.later b8)
          have HLd := Lib.hid (HLc.out.later b8)
          clear b8 HL7 HLc HPc
          cases hq : matchF L2 (chars u) with
          | true =>
            have HD : Hid (verdF (its2.map itA) (chars u) = 2) := Lib.hid (by rw [HI2.out, verd_snoc, if_pos hq])
            clear hq
            go_wp2_with fail
            refine (Verdict_any _ _ _ _ _ _ _ HL8.out (by omega)).mono ?_
            rintro e w9 ⟨rfl, b9⟩
            rw [HD.out]
            have B9 := Lib.hid (B8.out.trans (b9.mono B8.out.size))
            clear b9
            go_wp2_with fail
            go_ret
            exact ⟨rfl, B9.out⟩
          | false =>
            have HD : Hid (verdF (its2.map itA) (chars u) = verdF (its.map itA) (chars u)) := Lib.hid (by rw [HI2.out, verd_snoc, if_neg (by rw [hq]; simp)])
            clear hq
            go_wp2_with fail
            refine (Verdict_any _ _ _ _ _ _ _ HL8.out (by omega)).mono ?_
            rintro e w9 ⟨rfl, b9⟩
            rw [HD.out]
            have B9 := Lib.hid (B8.out.trans (b9.mono B8.out.size))
            have HLe := Lib.hid (HLd.out.later b9)
            clear b9
            go_wp2_with fail
            refine (Verdict_any _ _ _ _ _ _ _ HLe.out (by omega)).mono ?_
            rintro e w10 ⟨rfl, b10⟩
            have B10 := Lib.hid (B9.out.trans (b10.mono B9.out.size))
            clear b10
            generalize verdF (its.map itA) (chars u) = z
            go_wp2_with fail
            go_ret
            exact ⟨rfl, B10.out⟩
        · have HV := Lib.hid HA.out.2.2
          obtain ⟨t2, ht2⟩ : ∃ t2, t1 ++ (⟨#[64]⟩ : ByteArray) = t2 := ⟨_, rfl⟩
          rw [ht2] at HV
          have ht2s : t2.size ≤ t1.size + 1 := by rw [← ht2, ByteArray.size_append]; show t1.size + 1 ≤ _; omega
          have q2 : ¬ 9223372036854775807 < t1.size + ByteArray.size ⟨#[64]⟩ := by show ¬ _ < t1.size + 1; omega
          have q3 : ¬ 9223372036854775807 < t2.size + x.size := by omega
          obtain ⟨t3, ht3⟩ : ∃ t3, t2 ++ x = t3 := ⟨_, rfl⟩
          rw [ht3] at HV
          have ht3s : t3.size ≤ 1000 := by rw [← ht3, ByteArray.size_append]; omega
          have hba : Below w4.heap.size w4 (w4.alloc (.cells #[.string ⟨#[]⟩, .string ⟨#[33]⟩, .string ⟨#[64]⟩] 9)) := (Below.refl _ _).alloc (Nat.le_refl _) _
          have B4a := Lib.hid (B4.out.trans (hba.mono B4.out.size))
          have HL4a := Lib.hid (HL4.out.later hba)
          have HP4a := Lib.hid (HP4.out.later hba)
          clear HA hba
          go_wp2_with fail
          refine (list_some t3 m _ ht3s (cell_later0 HM.out B4a.out h00.out) (by rw [HV.out])).mono ?_
          rintro e w5 ⟨⟨lb2, its2, A5, cap5, rfl, hits2, hl5⟩, b5⟩
          rw [HV.out] at hits2
          have hlen2 : its2.length = its.length + 1 := by
            have := congrArg List.length hits2
            simpa using this
          have HI2 := Lib.hid hits2
          have HL5 := Lib.hid hl5
          have B5 := Lib.hid (B4a.out.trans (b5.mono B4a.out.size))
          have HLa := Lib.hid (HL4a.out.later b5)
          have HPa := Lib.hid (HP4a.out.later b5)
          have hne : ((its2.length : Int) != (its.length : Int) + 1) = false := by rw [hlen2]; simp
          clear b5 hl5 hits2 HL4 HP4 HL4a HP4a ht1 ht2 ht3 q1 q2 q3
          go_wp2_with fail
          refine (Len_any _ _ _ _ _ _ HL5.out).mono ?_
          rintro e w6 ⟨rfl, b6⟩
          have B6 := Lib.hid (B5.out.trans (b6.mono B5.out.size))
          have HL6 := Lib.hid (HL5.out.later b6)
          have HLb := Lib.hid (HLa.out.later b6)
          have HPb := Lib.hid (HPa.out.later b6)
          clear b6 HL5 HLa HPa
          go_wp2_with fail
          refine (Len_any _ _ _ _ _ _ HLb.out).mono ?_
          rintro e w7 ⟨rfl, b7⟩
          have B7 := Lib.hid (B6.out.trans (b7.mono B6.out.size))
          have HL7 := Lib.hid (HL6.out.later b7)
          have HLc := Lib.hid (HLb.out.later b7)
          have HPc := Lib.hid (HPb.out.later b7)
          clear b7 HL6 HLb HPb
          go_wp2_with fail
          refine (Match_any _ _ _ _ _ _ _ HPc.out (by omega)).mono ?_
          rintro e w8 ⟨rfl, b8⟩
          have B8 := Lib.hid (B7.out.trans (b8.mono B7.out.size))
          have HL8 := Lib.hid (HL7.out.later b8)
          have HLd := Lib.hid (HLc.out.later b8)
          clear b8 HL7 HLc HPc
          cases hq : matchF L2 (chars u) with
          | true =>
            have HD : Hid (verdF (its2.map itA) (chars u) = 3) := Lib.hid (by rw [HI2.out, verd_snoc, if_pos hq])
            clear hq
            go_wp2_with fail
            refine (Verdict_any _ _ _ _ _ _ _ HL8.out (by omega)).mono ?_
            rintro e w9 ⟨rfl, b9⟩
            rw [HD.out]
            have B9 := Lib.hid (B8.out.trans (b9.mono B8.out.size))
            clear b9
            go_wp2_with fail
            go_ret
            exact ⟨rfl, B9.out⟩
          | false =>
            have HD : Hid (verdF (its2.map itA) (chars u) = verdF (its.map itA) (chars u)) := Lib.hid (by rw [HI2.out, verd_snoc, if_neg (by rw [hq]; simp)])
            clear hq
            go_wp2_with fail
            refine (Verdict_any _ _ _ _ _ _ _ HL8.out (by omega)).mono ?_
            rintro e w9 ⟨rfl, b9⟩
            rw [HD.out]
            have B9 := Lib.hid (B8.out.trans (b9.mono B8.out.size))
            have HLe := Lib.hid (HLd.out.later b9)
            clear b9
            go_wp2_with fail
            refine (Verdict_any _ _ _ _ _ _ _ HLe.out (by omega)).mono ?_
            rintro e w10 ⟨rfl, b10⟩
            have B10 := Lib.hid (B9.out.trans (b10.mono B9.out.size))
            clear b10
            generalize verdF (its.map itA) (chars u) = z
            go_wp2_with fail
            go_ret
            exact ⟨rfl, B10.out⟩
    · have e2 : ((n2 : Int) != 0) = true := by rw [bne_iff_ne]; omega
      clear H1 H2 hl1 hn2
      go_wp2_with fail
      refine (known_any m _ (cell_later0 HM.out B2.out h00.out)).mono ?_
      rintro e w4 ⟨rfl, b4⟩
      have B4 := Lib.hid (B2.out.trans (b4.mono B2.out.size))
      clear b4
      go_wp2_with fail
      refine (known_any m _ (cell_later0 HM.out B4.out h00.out)).mono ?_
      rintro e w5 ⟨rfl, b5⟩
      have B5 := Lib.hid (B4.out.trans (b5.mono B4.out.size))
      clear b5
      go_wp2_with fail
      go_ret
      exact ⟨rfl, B5.out⟩
  · have e1 : ((n1 : Int) != 0) = true := by rw [bne_iff_ne]; omega
    clear H1 H2 hn1
    go_wp2_with fail
    refine (known_any m _ (cell_later0 HM.out B2.out h00.out)).mono ?_
    rintro e w4 ⟨rfl, b4⟩
    have B4 := Lib.hid (B2.out.trans (b4.mono B2.out.size))
    clear b4
    go_wp2_with fail
    refine (known_any m _ (cell_later0 HM.out B4.out h00.out)).mono ?_
    rintro e w5 ⟨rfl, b5⟩
    have B5 := Lib.hid (B4.out.trans (b5.mono B4.out.size))
    clear b5
    go_wp2_with fail
    go_ret
    exact ⟨rfl, B5.out⟩

end Go.Proofs.YtgnmanmlnbidfaaDoor
