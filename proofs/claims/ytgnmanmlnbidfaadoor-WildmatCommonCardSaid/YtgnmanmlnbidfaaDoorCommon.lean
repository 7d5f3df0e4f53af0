/- Wildmat: Common, by a walk through its text. -/
import Derived.Test.YtgnmanmlnbidfaaDoorBfs
import Derived.Deep.LoopGhost
namespace Go.Proofs.YtgnmanmlnbidfaaDoor
open Go.RowKit Go.Maps

theorem grown_new {a b c : World} {row : Option Nat} {r : Nat} (h : a.grownBy b row) (k : b.grownBy c (some r)) (hr : a.heap.size ≤ r) : a.grownBy c row :=
  ⟨k.os.trans h.os, k.tape.trans h.tape, k.output.trans h.output, Nat.le_trans h.size k.size, fun i hi hne => (k.block i (Nat.lt_of_lt_of_le hi h.size) (by simp; omega)).trans (h.block i hi hne)⟩

theorem MapF.dom {w : World} {b : Nat} {F : PF} (h : MapF w b F) {i k : Nat} {s : ByteArray} (hs : F i k = some s) : i < 100 ∧ k < 100 ∧ s.size ≤ 100000 := by
  obtain ⟨n, D, ho, hD⟩ := h
  exact hD.dom i k s hs

theorem RangeF.drew {w : World} {b r : Nat} {F : PF} {left : Nat → Nat → Bool} {cnt : Nat} (h : RangeF w b r F left cnt) : RangeF w.drew b r F left cnt :=
  h.kept (row := none) ⟨rfl, rfl, rfl, Nat.le_refl _, fun _ _ _ => rfl⟩ (by simp) (by simp)

theorem step_le {L : List El} {a c b : Nat} (h : stepF L a c = some b) : b ≤ L.length := by
  unfold stepF at h
  split at h
  · rename_i h1
    simp only [Option.some.injEq] at h
    subst h
    split <;> omega
  · cases h

theorem Dn_start {p q : List El} {F : PF} {a c : Nat} {t : ByteArray} : False ↔ Dn p q F (fun i k => (F i k).isSome) a c t := by
  constructor
  · exact False.elim
  · rintro ⟨i, k, h, s, m, a1, b1, h1, _⟩
    have h' : (F i k).isSome = false := h
    rw [h1] at h'; cases h'

theorem Dn_step {p q : List El} {F : PF} {left : Nat → Nat → Bool} {i k a c : Nat} {t : ByteArray} :
    (Dn p q F left a c t ∨ Cd p q F i k 40 a c t) ↔ Dn p q F (fun x y => left x y && !decide (x = i ∧ y = k)) a c t := by
  constructor
  · rintro (⟨i', k', h1, h2⟩ | h)
    · exact ⟨i', k', by simp only [h1, Bool.false_and], h2⟩
    · exact ⟨i, k, by simp, h⟩
  · rintro ⟨i', k', h1, h2⟩
    by_cases h : i' = i ∧ k' = k
    · obtain ⟨rfl, rfl⟩ := h
      exact .inr h2
    · left
      refine ⟨i', k', ?_, h2⟩
      simpa only [decide_eq_false h, Bool.not_false, Bool.and_true] using h1

theorem Cd_zero {p q : List El} {F : PF} {i k a c : Nat} {t : ByteArray} {R : Prop} : R ↔ (R ∨ Cd p q F i k 0 a c t) := by
  constructor
  · exact .inl
  · rintro (h | ⟨s, m, a1, b1, h1, h2, _⟩)
    · exact h
    · omega

theorem Cd_skip {p q : List El} {F : PF} {i k j a c : Nat} {t : ByteArray} {R : Prop} (h : stepF p i (nm j) = none ∨ stepF q k (nm j) = none) : (R ∨ Cd p q F i k j a c t) ↔ (R ∨ Cd p q F i k (j + 1) a c t) := by
  constructor
  · rintro (h1 | ⟨s, m, a1, b1, h1, h2, h3⟩)
    · exact .inl h1
    · exact .inr ⟨s, m, a1, b1, h1, by omega, h3⟩
  · rintro (h1 | ⟨s, m, a1, b1, h1, h2, h3, h4, h5⟩)
    · exact .inl h1
    · rcases Nat.lt_succ_iff_lt_or_eq.1 h2 with h6 | rfl
      · exact .inr ⟨s, m, a1, b1, h1, h6, h3, h4, h5⟩
      · rw [h3, h4] at h
        rcases h with h | h <;> cases h

theorem Cd_take {p q : List El} {F : PF} {i k j a c a1 b1 : Nat} {s t : ByteArray} {R : Prop} (hs : F i k = some s) (h3 : stepF p i (nm j) = some a1) (h4 : stepF q k (nm j) = some b1) :
    ((R ∨ Cd p q F i k j a c t) ∨ (Fr p a1 a ∧ Fr q b1 c ∧ t = s ++ bytesOf [nm j])) ↔ (R ∨ Cd p q F i k (j + 1) a c t) := by
  constructor
  · rintro ((h1 | ⟨s, m, a1, b1, h1, h2, h3⟩) | ⟨h5, h6, h7⟩)
    · exact .inl h1
    · exact .inr ⟨s, m, a1, b1, h1, by omega, h3⟩
    · exact .inr ⟨s, j, a1, b1, hs, by omega, h3, h4, h5, h6, h7⟩
  · rintro (h1 | ⟨s', m, a1', b1', h1, h2, h3', h4', h5, h6, h7⟩)
    · exact .inl (.inl h1)
    · rcases Nat.lt_succ_iff_lt_or_eq.1 h2 with h8 | rfl
      · exact .inl (.inr ⟨s', m, a1', b1', h1, h8, h3', h4', h5, h6, h7⟩)
      · rw [h3] at h3'; rw [h4] at h4'; rw [hs] at h1
        cases h3'; cases h4'; cases h1
        exact .inr ⟨h5, h6, h7⟩

theorem nm_ext : ∀ j : Nat, j < 40 → nameS.extract j (j + 1) = bytesOf [nm j] := by decide +kernel

theorem nm_slice (j : Nat) (hj : j < 40) (w : World) : (Instr.slice 9 (.string nameS) (some (.int .i64 (j : Int))) (some (.int .i64 ((j : Int) + 1))) none).run Tryd.prog w = .ok (.string (bytesOf [nm j])) w := by
  have h := run_slice_string (P := Tryd.prog) w 9 nameS .i64 .i64 (j : Int) ((j : Int) + 1) Tryd.underlying9 (by omega) (by omega) (by show (j : Int) + 1 ≤ (40 : Int); omega)
  rw [h, ← nm_ext j hj]
  rfl

set_option maxRecDepth 100000 in
set_option maxHeartbeats 4000000 in
theorem Common_any (B pb qb : Nat) (P Q : List El) (tp tq : ByteArray) (AP AQ : Option Addr) (cp cq : Nat) (w : World)
    (hP : IsPat w B pb tp P AP cp) (hQ : IsPat w B qb tq Q AQ cq) (hB : B ≤ w.heap.size) :
    Calls Tryd.prog 19 #[.pointer (some ⟨pb, 0, none⟩), .pointer (some ⟨qb, 0, none⟩)] w fun e w' => e = .returned (.tuple #[.string (bytesOf ((bestF P Q).getD [])), .bool (bestF P Q).isSome]) ∧ Below w.heap.size w w' := by
  have hPl := hP.len
  have hQl := hQ.len
  have HOK : Hid ((∀ x ∈ P, x.ok) ∧ (∀ x ∈ Q, x.ok)) := Lib.hid ⟨hP.ok, hQ.ok⟩
  have HPP := Lib.hid hP
  have HQQ := Lib.hid hQ
  have c1 := hP.els
  have c2 := hQ.els
  obtain ⟨fb, hfb⟩ : ∃ fb, w.heap.size = fb := ⟨_, rfl⟩
  obtain ⟨W1, hW1⟩ : ∃ W1, w.alloc (.map #[] 0) = W1 := ⟨_, rfl⟩
  have hg1 : w.grownBy W1 none := by rw [← hW1]; exact World.grownBy_alloc _ _ _
  have hs1 : W1.heap.size = fb + 1 := by rw [← hW1, ← hfb]; simp
  have hm1 : MapF W1 fb (fun _ _ => none) := by rw [← hW1, ← hfb]; exact MapF.made w
  obtain ⟨W2, hW2⟩ : ∃ W2, W1.alloc (.cells #[.pointer (some ⟨pb, 0, none⟩), .pointer (some ⟨qb, 0, none⟩), .map (some fb)] 84) = W2 := ⟨_, rfl⟩
  have hg2 : W1.grownBy W2 none := by rw [← hW2]; exact World.grownBy_alloc _ _ _
  have hs2 : W2.heap.size = fb + 2 := by rw [← hW2]; simp; omega
  have hsr2 : IsSearch W2 (fb + 1) pb qb fb := by
    have h := heap_alloc_new W1 (.cells #[.pointer (some ⟨pb, 0, none⟩), .pointer (some ⟨qb, 0, none⟩), .map (some fb)] 84)
    rw [hW2, hs1] at h
    constructor <;> (simp only [World.cell?, h]; rfl)
  have hmm : ∀ w : World, (Instr.makeMap 82 none).run Tryd.prog w = .ok (.map (some w.heap.size)) (w.alloc (.map #[] 0)) := fun w => rfl
  have hg12 := grown_trans hg1 hg2
  have d1 := hg12.cell c1 (by simp)
  have d2 := hg12.cell c2 (by simp)
  have f1 := (World.grownBy_alloc W2 (.cells #[.int .i64 0, .int .i64 0] 86) none).cell d1 (by simp)
  have f2 := (World.grownBy_alloc W2 (.cells #[.int .i64 0, .int .i64 0] 86) none).cell d2 (by simp)
  obtain ⟨W3, hW3⟩ : ∃ W3, W2.alloc (.cells #[.int .i64 (P.length : Nat), .int .i64 (Q.length : Nat)] 86) = W3 := ⟨_, rfl⟩
  have hg3 : W2.grownBy W3 none := by rw [← hW3]; exact World.grownBy_alloc _ _ _
  have hs3 : W3.heap.size = fb + 3 := by rw [← hW3]; simp; omega
  have hx3 : W3.cell? ⟨fb + 2, 0, none⟩ = some (.int .i64 (P.length : Nat)) ∧ W3.cell? ⟨fb + 2, 1, none⟩ = some (.int .i64 (Q.length : Nat)) := by
    have h := heap_alloc_new W2 (.cells #[.int .i64 (P.length : Nat), .int .i64 (Q.length : Nat)] 86)
    rw [hW3, hs2] at h
    constructor <;> (simp only [World.cell?, h]; rfl)
  obtain ⟨W4, hW4⟩ : ∃ W4, W3.drew = W4 := ⟨_, rfl⟩
  have hg4 : W3.grownBy W4 none := by rw [← hW4]; exact ⟨rfl, rfl, rfl, Nat.le_refl _, fun _ _ _ => rfl⟩
  have hs4 : W4.heap.size = fb + 3 := by rw [← hW4]; exact hs3
  obtain ⟨W5, hW5⟩ : ∃ W5, W4.alloc (.map #[] 0) = W5 := ⟨_, rfl⟩
  have hg5 : W4.grownBy W5 none := by rw [← hW5]; exact World.grownBy_alloc _ _ _
  have hs5 : W5.heap.size = fb + 4 := by rw [← hW5]; simp; omega
  have hm5 : MapF W5 (fb + 3) (fun _ _ => none) := by rw [← hW5, ← hs4]; exact MapF.made W4
  have hg35 := grown_trans hg4 hg5
  have hg25 := grown_trans hg3 hg35
  have hg15 := grown_trans hg2 hg25
  have HW5 : Hid (w.grownBy W5 none) := Lib.hid (grown_trans hg1 hg15)
  have HP5 := Lib.hid (hP.kept HW5.out hB (fun j h => by cases h))
  have HQ5 := Lib.hid (hQ.kept HW5.out hB (fun j h => by cases h))
  have HS5 := Lib.hid (hsr2.kept hg25 (by simp))
  have HX5 : Hid (W5.cell? ⟨fb + 2, 0, none⟩ = some (.int .i64 (P.length : Nat)) ∧ W5.cell? ⟨fb + 2, 1, none⟩ = some (.int .i64 (Q.length : Nat))) := Lib.hid ⟨hg35.cell hx3.1 (by simp), hg35.cell hx3.2 (by simp)⟩
  have HF5 := Lib.hid (hm1.kept hg15 (by simp))
  have hr6 := reach_any B (fb + 1) pb qb fb (fb + 3) 0 0 P Q tp tq AP AQ cp cq ⟨#[]⟩ (fun _ _ => none) (fun _ _ => none) W5 HS5.out HP5.out HQ5.out hm5 HF5.out (by omega) (by omega) (by omega) (by omega) (by omega) (by omega) (by decide)
  have HR6 : Hid (Calls Tryd.prog 40 #[.pointer (some ⟨fb + 1, 0, none⟩), .map (some (fb + 3)), .agg #[.int .i64 0, .int .i64 0], .string ⟨#[]⟩] W5 fun e w' => e = .returned (.tuple #[]) ∧ Hid (MapF w' (fb + 3) (reachF (fun _ _ => none) (fun _ _ => none) P Q 0 0 ⟨#[]⟩)) ∧ W5.grownBy w' (some (fb + 3))) := Lib.hid hr6
  clear hP hQ c1 c2 hsr2 hx3 hm1 hm5 hg1 hg2 hg3 hg4 hg5 hg35 hg25 hg15 hg12 hr6
  go_enter Tryd.func19, Tryd.ntmps19
  go_wp2_with fail
  go_region
  go_wp2_with fail
  refine HR6.out.mono ?_
  rintro e6 w6 ⟨rfl, HM6, hg6⟩
  have HG6 := Lib.hid hg6
  clear hg6 d1 d2 f1 f2 HR6
  have HW6 : Hid (Below w.heap.size w w6) := Lib.hid (((Below.refl _ w).grown HW5.out (Nat.le_refl _) (fun j h => by cases h)).grown HG6.out (by have := HW5.out.size; omega) (fun j h => by cases h; omega))
  have HP6 := Lib.hid (HP5.out.kept HG6.out (by omega) (fun j h => by cases h; omega))
  have HQ6 := Lib.hid (HQ5.out.kept HG6.out (by omega) (fun j h => by cases h; omega))
  have HS6 := Lib.hid (HS5.out.kept HG6.out (by simp))
  have HX6 : Hid (w6.cell? ⟨fb + 2, 0, none⟩ = some (.int .i64 (P.length : Nat)) ∧ w6.cell? ⟨fb + 2, 1, none⟩ = some (.int .i64 (Q.length : Nat))) := Lib.hid ⟨HG6.out.cell HX5.out.1 (by simp), HG6.out.cell HX5.out.2 (by simp)⟩
  have HF6 := Lib.hid (HF5.out.kept HG6.out (by simp))
  have hs6 : fb + 4 ≤ w6.heap.size := by have := HG6.out.size; omega
  have HL0 : Hid (LevIs P Q 0 (reachF (fun _ _ => none) (fun _ _ => none) P Q 0 0 ⟨#[]⟩)) := Lib.hid (level_zero P Q)
  rw [hfb] at HW6
  clear HP5 HQ5 HS5 HX5 HF5 HG6 HW5 hW1 hW2 hW3 hW4 hW5 hs1 hs2 hs3 hs4 hs5
  go_wp2_with fail
  go_loopg [8] 7000 (fun gk vl wr => ∃ (k lb : Nat) (F G : PF), gk + k = 7000 ∧ vl = .map (some lb) ∧ Hid (LevIs P Q k F) ∧ Hid (FndIs P Q k G) ∧ Hid (∀ v, BestP P Q P.length Q.length v → k ≤ v.length) ∧ Hid (MapF wr lb F) ∧ Hid (MapF wr fb G) ∧ fb + 2 < lb ∧ Hid (w6.grownBy wr (some fb)))
  case atStart => exact ⟨0, fb + 3, _, _, rfl, rfl, HL0, Lib.hid (fun a c s => ⟨fun h => (by cases h), fun h => (by omega)⟩), Lib.hid (fun _ _ => Nat.zero_le _), HM6, HF6, by omega, Lib.hid (World.grownBy.refl _ _)⟩
  case round =>
    obtain ⟨k, lb, F, G, hgk, rfl, HL, HN, HE, HM, HG, hlb, HR⟩ := hrel
    clear HM6 HF6 HL0
    obtain ⟨n, hn, hlen, hn0⟩ := HM.out.len
    have HN0 := Lib.hid hn0
    clear hn0
    by_cases hz : n = 0
    · subst hz
      have HB : Hid (bestF P Q = none) := Lib.hid (end_none HOK.out.1 HOK.out.2 HL.out (HN0.out.1 rfl) HE.out)
      go_wp2_with fail
      go_ret2
      exact ⟨by rw [HB.out]; rfl, HW6.out.grown HR.out (by omega) (fun j h => by cases h; omega)⟩
    · have hpos : (0 : Int) < (n : Int) := by omega
      have HK : Hid (k < 6561) := Lib.hid (by
        rcases Classical.em (∃ a c s, F a c = some s) with hall | hall
        · obtain ⟨a, c, s, hs⟩ := hall
          obtain ⟨h1, h2⟩ := (HL.out a c s).1 hs
          exact level_bound HOK.out.1 HOK.out.2 hPl hQl h1 (by rw [chars_length]; exact h2)
        · exfalso
          apply hz
          rw [HN0.out]
          intro a c
          cases hF : F a c with
          | none => rfl
          | some s => exact absurd ⟨a, c, s, hF⟩ hall)
      have hlk := HM.out.look (i := P.length) (k := Q.length) (by omega) (by omega)
      unfold pairV at hlk
      have x0 := HR.out.cell HX6.out.1 (by simp)
      have x1 := HR.out.cell HX6.out.2 (by simp)
      cases hFe : F P.length Q.length with
      | some s =>
        rw [hFe] at hlk
        have HB : Hid (bestF P Q = some (chars s)) := Lib.hid (end_some HOK.out.1 HOK.out.2 HL.out hFe)
        clear hFe
        go_wp2_with fail
        go_ret2
        exact ⟨by rw [HB.out]; simp only [Option.getD, Option.isSome, bytesOf_chars]; rfl, by rw [hfb]; exact HW6.out.grown HR.out (by omega) (fun j h => by cases h; omega)⟩
      | none =>
        rw [hFe] at hlk
        obtain ⟨g1, hg1⟩ : ∃ g1, gk = g1 + 1 := ⟨gk - 1, by have := HK.out; omega⟩
        have HE1 := Lib.hid (end_later HOK.out.1 HL.out hFe HE.out)
        clear hFe
        obtain ⟨w7, hrun7, ⟨cnt7, hrg7⟩, hg7, hs7⟩ := HM.out.range
        obtain ⟨rb, hrb⟩ : ∃ rb, wr.heap.size = rb := ⟨_, rfl⟩
        rw [hrb] at hrun7 hrg7 hs7
        have HRG7 := Lib.hid hrg7
        have HGR7 := Lib.hid hg7
        have hlbl : lb < rb := by rw [← hrb]; exact HM.out.lt
        clear hrg7 hg7
        go_wp2_with fail
        rw [show decide (0 < n) = true from decide_eq_true (by omega)]
        clear hlen hpos hz hn hlk hrun7
        go_loopg [] cnt7 (fun g8 w8 => ∃ left, Hid (RangeF w8 lb rb F left g8) ∧ Hid (MapF w8 fb (mixF F G left)) ∧ Hid (wr.grownBy w8 (some fb)))
        case atStart => exact ⟨_, HRG7, Lib.hid (by rw [mix_start]; exact HG.out.kept HGR7.out (by simp)), Lib.hid (HGR7.out.but _)⟩
        case round =>
          obtain ⟨left, HRG, HMX, HGR⟩ := hrel
          rcases HRG.out.next 0 with ⟨h0, hl, hnx⟩ | ⟨i, k', s, w9, cnt', hi, hk', hleft, hFs, hnx, hrg9, hlt, hg9, hs9, hent⟩
          · have HN1 : Hid (FndIs P Q (k + 1) (mixF F G left)) := Lib.hid (found_step HL.out HN.out (fun a c s hs => by have := HM.out.dom hs; exact hl a c (by omega) (by omega)))
            have HM8 := Lib.hid HRG.out.map
            have HR8 : Hid (w6.grownBy wr (some fb)) := Lib.hid (grown_trans HR.out HGR.out)
            generalize mixF F G left = G' at *
            clear HRG HGR hl HN HG HGR7 HRG7 HE
            obtain ⟨nb, hnb⟩ : ∃ nb, wr.heap.size = nb := ⟨_, rfl⟩
            obtain ⟨w9, hw9⟩ : ∃ w9, wr.alloc (.map #[] 0) = w9 := ⟨_, rfl⟩
            have hg9 : wr.grownBy w9 none := by rw [← hw9]; exact World.grownBy_alloc _ _ _
            have hs9 : w9.heap.size = nb + 1 := by rw [← hw9, ← hnb]; simp
            have hm9 : MapF w9 nb (fun _ _ => none) := by rw [← hw9, ← hnb]; exact MapF.made wr
            obtain ⟨wt, hrun10, ⟨cnt10, hrg10⟩, hg10, hs10⟩ := (HM8.out.kept hg9 (by simp)).range
            rw [hs9] at hrun10 hrg10
            have hlnb : lb < nb := by rw [← hnb]; exact HM8.out.lt
            have hfnb : fb < nb := by rw [← hnb]; exact HMX.out.lt
            have HRG10 := Lib.hid hrg10
            have HM10 := Lib.hid (hm9.kept hg10 (by simp))
            have HG10 : Hid (wr.grownBy wt none) := Lib.hid (grown_trans hg9 hg10)
            clear hg9 hm9 hrg10 hg10 hs10
            have HR8n : Hid (fb < wr.heap.size) := Lib.hid (by omega)
            have HPw := Lib.hid ((HP6.out.kept HR8.out (by omega) (fun j h => by cases h; omega)))
            have HQw := Lib.hid ((HQ6.out.kept HR8.out (by omega) (fun j h => by cases h; omega)))
            have HSw := Lib.hid (HS6.out.kept HR8.out (by simp))
            have hBn : B ≤ nb := by omega
            go_wp2_with fail
            clear hw9 hrun10 hnx hs9 x0 x1
            go_loopg [] cnt10 (fun g11 wv => ∃ left F', Hid (RangeF wv lb (nb + 1) F left g11) ∧ Hid (MapF wv nb F') ∧ Hid (MinIs G' F' (Dn P Q F left)) ∧ Hid (wr.grownBy wv none))
            case atStart => exact ⟨_, _, HRG10, HM10, Lib.hid ((min_empty G').congr fun a c t => Dn_start), HG10⟩
            case round =>
              obtain ⟨left, F', HRG, HM', HMin, HGV⟩ := hrel
              clear HRG10 HM10 HG10
              rcases HRG.out.next 0 with ⟨h0, hl, hnx⟩ | ⟨i, k', s, wc, cnt', hi, hk', hleft, hFs, hnx, hrgc, hlt, hgc, hsc, hent⟩
              · have HL1 : Hid (LevIs P Q (k + 1) F') := Lib.hid (level_next HOK.out.1 HOK.out.2 HL.out HN1.out (fun a c s hs => by have := HM8.out.dom hs; exact hl a c (by omega) (by omega)) HMin.out)
                clear hl
                go_wp2_with fail
                go_roundg g1
                case measure => omega
                case rel => exact ⟨k + 1, nb, F', G', by omega, rfl, HL1, HN1, HE1, HM', Lib.hid (HMX.out.kept HGV.out (by simp)), by omega, Lib.hid (grown_trans HR8.out (HGV.out.but _))⟩
              · unfold pairV at hnx hent
                have HRc := Lib.hid hrgc
                have HGc := Lib.hid hgc
                obtain ⟨zb, hzb⟩ : ∃ zb, wr.heap.size = zb := ⟨_, rfl⟩
                rw [hzb] at hsc
                have hnz : nb + 1 < zb := by have := HRG.out.lt; omega
                obtain ⟨wd, hwd⟩ : ∃ wd, wc.alloc (.cells #[.int .i64 (i : Nat), .int .i64 (k' : Nat)] 86) = wd := ⟨_, rfl⟩
                have hgd : wc.grownBy wd none := by rw [← hwd]; exact World.grownBy_alloc _ _ _
                have hy : wd.cell? ⟨zb, 0, none⟩ = some (.int .i64 (i : Nat)) ∧ wd.cell? ⟨zb, 1, none⟩ = some (.int .i64 (k' : Nat)) := by
                  have h := heap_alloc_new wc (.cells #[.int .i64 (i : Nat), .int .i64 (k' : Nat)] 86)
                  rw [hwd, hsc] at h
                  constructor <;> (simp only [World.cell?, h]; rfl)
                have HY := Lib.hid hy
                have HGd : Hid (wr.grownBy wd (some (nb + 1))) := Lib.hid (grown_trans HGc.out (hgd.but _))
                have HGD := Lib.hid (grown_new HGV.out HGd.out (by omega))
                have HRd := Lib.hid (HRc.out.kept hgd (by simp) (by simp))
                have HMd := Lib.hid (HM'.out.kept HGd.out (by simp))
                have hzd : zb < wd.heap.size := by rw [← hwd]; simp; omega
                have HB0 : Hid (BestP P Q i k' (chars s) ∧ s.size = k) := Lib.hid ((HL.out i k' s).1 hFs)
                have hil : i ≤ P.length := Rc.le HB0.out.1.1.1
                have hkl : k' ≤ Q.length := Rc.le HB0.out.1.1.2
                have hssz : s.size < 6561 := by rw [HB0.out.2]; exact HK.out
                have HFs := Lib.hid hFs
                clear hgd hy hrgc hgc hFs
                go_wp2_with fail
                clear hnx hent hwd hsc
                go_loopg [80] 40 (fun g12 vj wj => ∃ (j : Nat) (F2 : PF), g12 + j = 40 ∧ vj = .int .i64 j ∧ Hid (MapF wj nb F2) ∧ Hid (MinIs G' F2 (fun a c t => Dn P Q F left a c t ∨ Cd P Q F i k' j a c t)) ∧ Hid (wd.grownBy wj (some nb)))
                case atStart => exact ⟨0, F', rfl, rfl, HMd, Lib.hid (HMin.out.congr fun a c t => Cd_zero), Lib.hid (World.grownBy.refl _ _)⟩
                case round =>
                  obtain ⟨j, F2, hgj, rfl, HM2, HMin2, HGj⟩ := hrel
                  by_cases hj : j = 40
                  · subst hj
                    go_wp2_with fail
                    go_roundg cnt'
                    case measure => omega
                    case rel => exact ⟨_, F2, Lib.hid (HRd.out.kept HGj.out (by simp; omega) (by simp)), HM2, Lib.hid (HMin2.out.congr fun a c t => Dn_step), Lib.hid (grown_new HGD.out HGj.out (by omega))⟩
                  · obtain ⟨g2, hg2⟩ : ∃ g2, gk = g2 + 1 := ⟨gk - 1, by omega⟩
                    have hj40 : (j : Int) < 40 := by omega
                    have HJ : Hid (j < 40) := Lib.hid (by omega)
                    have HPj := Lib.hid ((HPw.out.kept HGD.out (by omega) (fun j h => by cases h)).kept HGj.out (by have := HGD.out.size; omega) (fun j h => by cases h; omega))
                    have HQj := Lib.hid ((HQw.out.kept HGD.out (by omega) (fun j h => by cases h)).kept HGj.out (by have := HGD.out.size; omega) (fun j h => by cases h; omega))
                    have HSj := Lib.hid ((HSw.out.kept HGD.out (by simp)).kept HGj.out (by simp; omega))
                    have HGf := Lib.hid ((HMX.out.kept HGD.out (by simp)).kept HGj.out (by simp; omega))
                    have x0 := HGj.out.cell HY.out.1 (by simp; omega)
                    have x1 := HGj.out.cell HY.out.2 (by simp; omega)
                    have hzj : zb < wr.heap.size := Nat.lt_of_lt_of_le hzd HGj.out.size
                    have hc256 : nm j < 256 := by have := nameS_lt j HJ.out; show (chars nameS).getD j 0 < 256; omega
                    have hidx := fun w => idx_at nameS j HJ.out (j : Int) rfl w
                    have hslc := fun w => nm_slice j HJ.out w
                    obtain ⟨c, hc⟩ : ∃ c, nm j = c := ⟨_, rfl⟩
                    have hc' : (chars nameS).getD j 0 = c := hc
                    rw [hc'] at hidx
                    rw [hc] at hslc hc256
                    obtain ⟨t1, ht1⟩ : ∃ t1, bytesOf [c] = t1 := ⟨_, rfl⟩
                    rw [ht1] at hslc
                    have ht1s : t1.size = 1 := by rw [← ht1, bytesOf_size]; rfl
                    unfold nameS at hidx hslc
                    obtain ⟨o1, ho1⟩ : ∃ o1, stepF P i c = o1 := ⟨_, rfl⟩
                    obtain ⟨o2, ho2⟩ : ∃ o2, stepF Q k' c = o2 := ⟨_, rfl⟩
                    have HS1 : Hid (∀ W, IsPat W B pb tp P AP cp → B ≤ W.heap.size → Calls Tryd.prog 41 #[.pointer (some ⟨pb, 0, none⟩), .int .i64 (i : Nat), .int .u8 (c : Nat)] W fun e w' => e = .returned (.tuple #[.int .i64 (o1.getD 0 : Nat), .bool o1.isSome]) ∧ Below W.heap.size W w') := Lib.hid (by rw [← ho1]; exact fun W h1 h2 => step_any B pb i c tp P AP cp W h1 h2 hil hc256)
                    have HS2 : Hid (∀ W, IsPat W B qb tq Q AQ cq → B ≤ W.heap.size → Calls Tryd.prog 41 #[.pointer (some ⟨qb, 0, none⟩), .int .i64 (k' : Nat), .int .u8 (c : Nat)] W fun e w' => e = .returned (.tuple #[.int .i64 (o2.getD 0 : Nat), .bool o2.isSome]) ∧ Below W.heap.size W w') := Lib.hid (by rw [← ho2]; exact fun W h1 h2 => step_any B qb k' c tq Q AQ cq W h1 h2 hkl hc256)
                    have HO : Hid (stepF P i (nm j) = o1 ∧ stepF Q k' (nm j) = o2 ∧ bytesOf [nm j] = t1) := Lib.hid (by rw [hc]; exact ⟨ho1, ho2, ht1⟩)
                    have hBj : B ≤ wr.heap.size := by omega
                    clear ho1 ho2 ht1 hc hc'
                    go_wp2_with fail
                    go_region_held3 (fun W' => W'.cell? ⟨zb, 0, none⟩ = some (.int .i64 (i : Nat))) (first | exact x0 | exact p0) (first | (go_at_call 41; refine (HS1.out _ ?_ ?_).mono ?_; (exact HPj.out.heap rfl); (exact hBj); rintro e2 w2 ⟨rfl, hb1⟩; have p0 := (hb1.cell (p := ⟨zb, 0, none⟩) (show zb < wr.heap.size by omega)).trans x0))
                    have hgr1 : wr.grownBy w2 none := ⟨hb1.os, hb1.tape, hb1.output, hb1.size, fun k hk _ => hb1.block k hk⟩
                    have HGj1 : Hid (wd.grownBy w2 (some nb)) := Lib.hid (grown_trans HGj.out (hgr1.but _))
                    have x1' := hgr1.cell x1 (by simp)
                    have HQ1 := Lib.hid (HQj.out.kept hgr1 hBj (fun j h => by cases h))
                    have HGR1 := Lib.hid hgr1
                    have hz1 : zb < w2.heap.size := Nat.lt_of_lt_of_le hzj hgr1.size
                    have hB1 : B ≤ w2.heap.size := Nat.le_trans hBj hgr1.size
                    clear hb1 hgr1 x0 x1 p0
                    go_wp2_with fail
                    go_region_held3 (fun W' => W'.cell? ⟨zb, 1, none⟩ = some (.int .i64 (k' : Nat))) (first | exact x1' | exact p0) (first | (go_at_call 41; refine (HS2.out _ ?_ ?_).mono ?_; (exact HQ1.out.heap rfl); (exact hB1); rintro e3 w3 ⟨rfl, hb1⟩; have p0 := (hb1.cell (p := ⟨zb, 1, none⟩) (show zb < w2.heap.size by omega)).trans x1'))
                    have hgr3 : w2.grownBy w3 none := ⟨hb1.os, hb1.tape, hb1.output, hb1.size, fun k hk _ => hb1.block k hk⟩
                    have HGj3 : Hid (wd.grownBy w3 (some nb)) := Lib.hid (grown_trans HGj1.out (hgr3.but _))
                    have HGR3 := Lib.hid (grown_trans HGR1.out hgr3)
                    clear hb1 hgr3 x1' p0
                    have HM3 := Lib.hid (HM2.out.kept HGR3.out (by simp))
                    cases o1 with
                    | none =>
                      have HMn := Lib.hid (HMin2.out.congr fun a c t => Cd_skip (.inl HO.out.1))
                      go_wp2_with fail
                      go_roundg g2
                      case measure => omega
                      case rel => exact ⟨j + 1, F2, by omega, by go_num, HM3, HMn, HGj3⟩
                    | some a1 =>
                      cases o2 with
                      | none =>
                        have HMn := Lib.hid (HMin2.out.congr fun a c t => Cd_skip (.inr HO.out.2.1))
                        go_wp2_with fail
                        go_roundg g2
                        case measure => omega
                        case rel => exact ⟨j + 1, F2, by omega, by go_num, HM3, HMn, HGj3⟩
                      | some b1 =>
                        have ha1 : a1 ≤ P.length := step_le HO.out.1
                        have hb1 : b1 ≤ Q.length := step_le HO.out.2.1
                        have hct : ∀ a c t, ((Dn P Q F left a c t ∨ Cd P Q F i k' j a c t) ∨ (Fr P a1 a ∧ Fr Q b1 c ∧ t = s ++ t1)) ↔ (Dn P Q F left a c t ∨ Cd P Q F i k' (j + 1) a c t) := fun a c t => by rw [← HO.out.2.2]; exact Cd_take HFs.out HO.out.1 HO.out.2.1
                        have hmn := (min_reach (s ++ t1) ha1 hb1 HMin2.out).congr hct
                        have HMn := Lib.hid hmn
                        have hadd : ¬ 9223372036854775807 < s.size + t1.size := by omega
                        have hG0 := HGR3.out.size
                        have hr := reach_any B (fb + 1) pb qb fb nb a1 b1 P Q tp tq AP AQ cp cq (s ++ t1) F2 G' w3 (HSj.out.kept HGR3.out (by simp)) (HPj.out.kept HGR3.out hBj (fun j h => by cases h)) (HQj.out.kept HGR3.out hBj (fun j h => by cases h)) HM3.out (HGf.out.kept HGR3.out (by simp)) (by omega) (by omega) (by omega) hBn ha1 hb1 (by rw [ByteArray.size_append]; omega)
                        unfold pairV at hr
                        have HRE := Lib.hid hr
                        clear hmn hr hct
                        go_wp2_with fail
                        refine HRE.out.mono ?_
                        rintro e4 w4 ⟨rfl, HM4, hg4⟩
                        have HGj4 : Hid (wd.grownBy w4 (some nb)) := Lib.hid (grown_trans HGj3.out hg4)
                        clear hg4
                        go_wp2_with fail
                        go_roundg g2
                        case measure => omega
                        case rel => exact ⟨j + 1, _, by omega, by go_num, HM4, HMn, HGj4⟩
          · unfold pairV at hnx hent
            have HR9 := Lib.hid hrg9
            have HG9 := Lib.hid hg9
            obtain ⟨yb, hyb⟩ : ∃ yb, wr.heap.size = yb := ⟨_, rfl⟩
            rw [hyb] at hs9
            obtain ⟨wa, hwa⟩ : ∃ wa, w9.alloc (.cells #[.int .i64 (i : Nat), .int .i64 (k' : Nat)] 86) = wa := ⟨_, rfl⟩
            have hga : w9.grownBy wa none := by rw [← hwa]; exact World.grownBy_alloc _ _ _
            have hy : wa.cell? ⟨yb, 0, none⟩ = some (.int .i64 (i : Nat)) ∧ wa.cell? ⟨yb, 1, none⟩ = some (.int .i64 (k' : Nat)) := by
              have h := heap_alloc_new w9 (.cells #[.int .i64 (i : Nat), .int .i64 (k' : Nat)] 86)
              rw [hwa, hs9] at h
              constructor <;> (simp only [World.cell?, h]; rfl)
            obtain ⟨y0, y1⟩ := hy
            have HGa : Hid (wr.grownBy wa (some rb)) := Lib.hid (grown_trans HG9.out (hga.but _))
            have hsd := (((HS6.out.kept HR.out (by simp)).kept HGR.out (by simp)).kept HGa.out (by simp; omega)).f
            obtain ⟨wu, hup, hmu, hgu⟩ := ((HMX.out.kept HGa.out (by simp; omega)).drew).upd (i := i) (k := k') (s := s) hi hk' (HM.out.dom hFs).2.2
            unfold pairV at hup
            have HGu := Lib.hid hgu
            have HMu := Lib.hid hmu
            have HRa := Lib.hid (HR9.out.kept hga (by simp) (by simp))
            clear hrg9 hg9 hga hgu hmu
            go_wp2_with fail
            go_region
            go_wp2_with fail
            go_roundg cnt'
            case measure => omega
            case rel => exact ⟨_, Lib.hid (HRa.out.drew.kept HGu.out (by simp; omega) (by simp; omega)), Lib.hid (by rw [← mix_step hFs]; exact HMu.out), Lib.hid (grown_trans (grown_new HGR.out HGa.out (by omega)) (grown_trans (show wa.grownBy wa.drew (some fb) from ⟨rfl, rfl, rfl, Nat.le_refl _, fun _ _ _ => rfl⟩) HGu.out))⟩

end Go.Proofs.YtgnmanmlnbidfaaDoor
