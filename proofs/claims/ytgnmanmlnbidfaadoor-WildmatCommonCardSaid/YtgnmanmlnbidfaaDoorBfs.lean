/- Wildmat: the levels of the search for a common string, as plain mathematics. -/
import Derived.Test.YtgnmanmlnbidfaaDoorBest
import Derived.Test.YtgnmanmlnbidfaaDoorReach
import Derived.Test.YtgnmanmlnbidfaaDoorEmpty
namespace Go.Proofs.YtgnmanmlnbidfaaDoor

/-- The strings that lead to a pair of positions. -/
def Tp (p q : List El) (a c : Nat) (w : List Nat) : Prop := Rc p w a ∧ Rc q w c
def BestP (p q : List El) (a c : Nat) (w : List Nat) : Prop := IsBest (Tp p q a c) (some w)

theorem el_take {L : List El} {n i : Nat} (h : i < n) : elAt (L.take n) i = elAt L i := by
  rw [elAt, elAt, List.getD_eq_getElem?_getD, List.getD_eq_getElem?_getD, List.getElem?_take_of_lt h]

theorem Rc.of_take {L : List El} {n : Nat} {w : List Nat} {b : Nat} (h : Rc (L.take n) w b) : Rc L w b := by
  have hl : (L.take n).length ≤ L.length := List.length_take_le' n L
  have hn : (L.take n).length ≤ n := List.length_take_le n L
  induction h with
  | start => exact .start
  | skip _ h1 h2 ih => rw [el_take (by omega)] at h2; exact ih.skip (by omega) h2
  | eat _ h1 h2 h3 ih => rw [el_take (by omega)] at h2; exact ih.eat (by omega) h2 h3
  | one _ h1 h2 h3 ih => rw [el_take (by omega)] at h2 h3; exact ih.one (by omega) h2 h3

theorem Rc.to_take {L : List El} {n : Nat} (hn : n ≤ L.length) (hs : n < L.length → (elAt L n).isStar = false) {w : List Nat} {b : Nat} (h : Rc L w b) : b ≤ n → Rc (L.take n) w b := by
  have hl : (L.take n).length = n := by rw [List.length_take]; omega
  induction h with
  | start => intro _; exact .start
  | skip _ h1 h2 ih =>
    intro hb
    exact (ih (by omega)).skip (by omega) (by rw [el_take (by omega)]; exact h2)
  | @eat w a c _ h1 h2 h3 ih =>
    intro hb
    rcases Nat.lt_or_ge a n with h4 | h4
    · exact (ih hb).eat (by omega) (by rw [el_take h4]; exact h2) h3
    · obtain rfl : a = n := by omega
      rw [hs h1] at h2; cases h2
  | one _ h1 h2 h3 ih =>
    intro hb
    exact (ih (by omega)).one (by omega) (by rw [el_take (by omega)]; exact h2) (by rw [el_take (by omega)]; exact h3)

theorem Rc.to_take1 {L : List El} {n : Nat} (hn : n < L.length) {w : List Nat} {b : Nat} (h : Rc L w b) : b ≤ n → Rc (L.take (n + 1)) w b := by
  have hl : (L.take (n + 1)).length = n + 1 := by rw [List.length_take]; omega
  induction h with
  | start => intro _; exact .start
  | skip _ h1 h2 ih => intro h3; exact (ih (by omega)).skip (by omega) (by rw [el_take (by omega)]; exact h2)
  | eat _ h1 h2 h3 ih => intro h4; exact (ih h4).eat (by omega) (by rw [el_take (by omega)]; exact h2) h3
  | one _ h1 h2 h3 ih => intro h4; exact (ih (by omega)).one (by omega) (by rw [el_take (by omega)]; exact h2) (by rw [el_take (by omega)]; exact h3)

theorem Rc_pre (L : List El) {a : Nat} (ha : a ≤ L.length) : ∃ A : List El, (∀ x ∈ A, x ∈ L) ∧ ∀ w, Rc L w a ↔ Mt A w := by
  by_cases hs : a < L.length ∧ (elAt L a).isStar = true
  · refine ⟨L.take (a + 1), fun x hx => List.mem_of_mem_take hx, fun w => ?_⟩
    have hl : (L.take (a + 1)).length = a + 1 := by rw [List.length_take]; omega
    rw [← Rc_iff, hl]
    constructor
    · intro h
      exact (h.to_take1 hs.1 (Nat.le_refl _)).skip (by omega) (by rw [el_take (by omega)]; exact hs.2)
    · intro h
      have hl' := hl
      generalize hb : a + 1 = b at h hl'
      cases h with
      | start => omega
      | skip h1 h2 h3 =>
        rename_i a'
        obtain rfl : a' = a := by omega
        exact h1.of_take
      | eat h1 h2 h3 h4 => omega
      | one h1 h2 h3 h4 =>
        rename_i a' _
        obtain rfl : a' = a := by omega
        rw [el_take (by omega), hs.2] at h3
        cases h3
  · refine ⟨L.take a, fun x hx => List.mem_of_mem_take hx, fun w => ?_⟩
    have hl : (L.take a).length = a := by rw [List.length_take]; omega
    have h0 : a < L.length → (elAt L a).isStar = false := by
      intro h
      cases h1 : (elAt L a).isStar with
      | false => rfl
      | true => exact absurd ⟨h, h1⟩ hs
    rw [← Rc_iff, hl]
    exact ⟨fun h => h.to_take ha h0 (Nat.le_refl _), fun h => h.of_take⟩

theorem best_exists {p q : List El} (hp : ∀ x ∈ p, x.ok) (hq : ∀ x ∈ q, x.ok) {a c : Nat} (ha : a ≤ p.length) (hc : c ≤ q.length) : ∃ o, IsBest (Tp p q a c) o := by
  obtain ⟨A, hA, h1⟩ := Rc_pre p ha
  obtain ⟨C, hC, h2⟩ := Rc_pre q hc
  exact ⟨bestF A C, (bestF_ok (fun x hx => hp x (hA x hx)) (fun x hx => hq x (hC x hx))).congr fun w => by unfold Both Tp; rw [h1, h2]⟩

theorem BestP.unique {p q : List El} {a c : Nat} {v w : List Nat} (h1 : BestP p q a c v) (h2 : BestP p q a c w) : v = w := Option.some.inj (IsBest.unique h1 h2)

theorem best_of {p q : List El} (hp : ∀ x ∈ p, x.ok) (hq : ∀ x ∈ q, x.ok) {a c : Nat} {w : List Nat} (h : Tp p q a c w) : ∃ b, BestP p q a c b ∧ slLe b w = true := by
  obtain ⟨o, ho⟩ := best_exists hp hq (Rc.le h.1) (Rc.le h.2)
  cases o with
  | none => exact absurd h (ho w)
  | some b => exact ⟨b, ho, ho.2 w h⟩

theorem Rc.named {L : List El} (hL : ∀ x ∈ L, x.ok) {w : List Nat} {a : Nat} (h : Rc L w a) : ∀ c ∈ w, namedB c = true := by
  obtain ⟨A, hA, h1⟩ := Rc_pre L h.le
  exact Mt_named (fun x hx => hL x (hA x hx)) ((h1 w).1 h)

theorem lex_snoc (a b : List Nat) (c : Nat) (hl : a.length = b.length) : lexLt (a ++ [c]) (b ++ [c]) = lexLt a b := by
  induction a generalizing b with
  | nil =>
    cases b with
    | nil => simp [lexLt]
    | cons y b => simp at hl
  | cons x a ih =>
    cases b with
    | nil => simp at hl
    | cons y b => simp only [List.cons_append, lexLt, ih b (by simpa using hl)]

theorem sl_snoc {a b : List Nat} (c : Nat) (h : slLe a b = true) : slLe (a ++ [c]) (b ++ [c]) = true := by
  rw [slLe_iff] at h ⊢
  rcases h with h | ⟨h1, h2⟩
  · left; simp; omega
  · right
    refine ⟨by simp [h1], ?_⟩
    rw [lex_snoc _ _ _ h1.symm]
    exact h2

/-- The step that a best string's last character takes, from the best string before it. -/
theorem best_pred {p q : List El} (hp : ∀ x ∈ p, x.ok) (hq : ∀ x ∈ q, x.ok) {a c n : Nat} {w : List Nat} (h : BestP p q a c w) (hw : w.length = n + 1) :
    ∃ i k s ch a1 b1, BestP p q i k s ∧ s.length = n ∧ namedB ch = true ∧ stepF p i ch = some a1 ∧ stepF q k ch = some b1 ∧ Fr p a1 a ∧ Fr q b1 c ∧ w = s ++ [ch] := by
  rcases List.eq_nil_or_concat w with rfl | ⟨w0, ch, rfl⟩
  · simp at hw
  · rw [List.concat_eq_append] at h hw ⊢
    have hw0 : w0.length = n := by simpa using hw
    obtain ⟨⟨h1, h2⟩, hmin⟩ := h
    have hch := Rc.named hp h1 ch (by simp)
    obtain ⟨i, a1, h3, h4, h5⟩ := Rc_snoc_iff.1 h1
    obtain ⟨k, b1, h6, h7, h8⟩ := Rc_snoc_iff.1 h2
    obtain ⟨s, hs, hle⟩ := best_of hp hq (show Tp p q i k w0 from ⟨h3, h6⟩)
    have hT : Tp p q a c (s ++ [ch]) := ⟨Rc_snoc_iff.2 ⟨i, a1, hs.1.1, h4, h5⟩, Rc_snoc_iff.2 ⟨k, b1, hs.1.2, h7, h8⟩⟩
    have e := slLe_antisymm (hmin _ hT) (sl_snoc ch hle)
    have hsl : s.length = n := by
      have := congrArg List.length e
      simp at this
      omega
    exact ⟨i, k, s, ch, a1, b1, hs, hsl, hch, h4, h7, h5, h8, e⟩

theorem best_chain {p q : List El} (hp : ∀ x ∈ p, x.ok) (hq : ∀ x ∈ q, x.ok) : ∀ (n : Nat) {a c : Nat} {w : List Nat}, BestP p q a c w → w.length = n → ∀ j, j ≤ n → ∃ a' c' w', BestP p q a' c' w' ∧ w'.length = j := by
  intro n
  induction n with
  | zero => intro a c w h hw j hj; exact ⟨a, c, w, h, by omega⟩
  | succ n ih =>
    intro a c w h hw j hj
    rcases Nat.lt_or_ge n j with h1 | h1
    · exact ⟨a, c, w, h, by omega⟩
    · obtain ⟨i, k, s, ch, a1, b1, hs, hsl, _⟩ := best_pred hp hq h hw
      exact ih hs hsl j h1

theorem level_bound {p q : List El} (hp : ∀ x ∈ p, x.ok) (hq : ∀ x ∈ q, x.ok) (hpl : p.length ≤ 80) (hql : q.length ≤ 80) {n a c : Nat} {w : List Nat} (h : BestP p q a c w) (hw : w.length = n) : n < 6561 := by
  have hc := best_chain hp hq n h hw
  have hf : ∃ f : Nat → Nat × Nat, ∀ j, j ≤ n → ∃ w', BestP p q (f j).1 (f j).2 w' ∧ w'.length = j := by
    refine ⟨fun j => if hj : j ≤ n then ((hc j hj).choose, (hc j hj).choose_spec.choose) else (0, 0), fun j hj => ?_⟩
    simp only [dif_pos hj]
    exact (hc j hj).choose_spec.choose_spec
  obtain ⟨f, hf⟩ := hf
  have hlen := nodup_sub ((List.range (n + 1)).map f) ((List.range 81).flatMap fun i => (List.range 81).map fun k => (i, k)) (by
    rw [List.pairwise_map]
    refine List.Pairwise.imp_of_mem ?_ List.nodup_range
    intro x y hx hy hne e
    obtain ⟨v1, h1, h2⟩ := hf x (by simpa [Nat.lt_succ_iff] using hx)
    obtain ⟨v2, h3, h4⟩ := hf y (by simpa [Nat.lt_succ_iff] using hy)
    rw [e] at h1
    have := h1.unique h3
    rw [this, h4] at h2
    exact hne h2.symm) (by
    intro x hx
    obtain ⟨j, hj, rfl⟩ := List.mem_map.1 hx
    obtain ⟨w', h1, _⟩ := hf j (by simpa [Nat.lt_succ_iff] using hj)
    have h2 := Rc.le h1.1.1
    have h3 := Rc.le h1.1.2
    simp only [List.mem_flatMap, List.mem_range, List.mem_map]
    exact ⟨(f j).1, by omega, (f j).2, by omega, rfl⟩)
  have hl : ((List.range 81).flatMap fun i => (List.range 81).map fun k => (i, k)).length = 6561 := by
    simp only [List.length_flatMap, List.length_map, List.length_range]
    decide +kernel
  rw [hl] at hlen
  simp at hlen
  omega

theorem less_lex (a b : ByteArray) : Op.bytesLess a.toList b.toList = lexLt (chars a) (chars b) := by
  rw [ByteArray.toList_eq, ByteArray.toList_eq]
  unfold chars
  generalize a.data.toList = x
  generalize b.data.toList = y
  induction x generalizing y with
  | nil => cases y <;> simp [Op.bytesLess, lexLt]
  | cons a x ih =>
    cases y with
    | nil => simp [Op.bytesLess, lexLt]
    | cons b y =>
      have h1 : decide (a < b) = decide (a.toNat < b.toNat) := by congr 1
      have h2 : (a == b) = (a.toNat == b.toNat) := by
        rw [Bool.eq_iff_iff]
        simp only [beq_iff_eq]
        exact ⟨fun h => by rw [h], fun h => UInt8.toNat.inj h⟩
      simp only [Op.bytesLess, List.map_cons, lexLt, ih, h1, h2]

/-- A level, and what has been found before it. -/
def LevIs (p q : List El) (k : Nat) (F : PF) : Prop := ∀ a c s, F a c = some s ↔ BestP p q a c (chars s) ∧ s.size = k
def FndIs (p q : List El) (k : Nat) (G : PF) : Prop := ∀ a c s, G a c = some s ↔ BestP p q a c (chars s) ∧ s.size < k

/-- What has been found, with those of a level that have been gone over. -/
def mixF (F G : PF) (left : Nat → Nat → Bool) : PF := fun a c => if (F a c).isSome = true ∧ left a c = false then F a c else G a c

theorem mix_start (F G : PF) : mixF F G (fun a c => (F a c).isSome) = G := by
  funext a c
  unfold mixF
  rw [if_neg]
  rintro ⟨h1, h2⟩
  have h2' : (F a c).isSome = false := h2
  rw [h1] at h2'; cases h2'

theorem mix_step {F G : PF} {left : Nat → Nat → Bool} {i k : Nat} {s : ByteArray} (h : F i k = some s) : putF (mixF F G left) i k s = mixF F G (fun a c => left a c && !decide (a = i ∧ c = k)) := by
  funext a c
  unfold putF mixF
  by_cases hac : a = i ∧ c = k
  · obtain ⟨rfl, rfl⟩ := hac
    rw [if_pos ⟨rfl, rfl⟩, if_pos ⟨by rw [h]; rfl, by simp⟩, h]
  · rw [if_neg hac]
    simp only [decide_eq_false hac, Bool.not_false, Bool.and_true]

theorem found_step {p q : List El} {k : Nat} {F G : PF} {left : Nat → Nat → Bool} (hF : LevIs p q k F) (hG : FndIs p q k G) (hl : ∀ a c s, F a c = some s → left a c = false) : FndIs p q (k + 1) (mixF F G left) := by
  intro a c s
  unfold mixF
  constructor
  · intro h
    split at h
    · obtain ⟨h1, h2⟩ := (hF a c s).1 h
      exact ⟨h1, by omega⟩
    · obtain ⟨h1, h2⟩ := (hG a c s).1 h
      exact ⟨h1, by omega⟩
  · rintro ⟨h1, h2⟩
    rcases Nat.lt_succ_iff_lt_or_eq.1 h2 with h3 | h3
    · rw [if_neg]
      · exact (hG a c s).2 ⟨h1, h3⟩
      · rintro ⟨h4, _⟩
        obtain ⟨t, ht⟩ := Option.isSome_iff_exists.1 h4
        obtain ⟨h5, h6⟩ := (hF a c t).1 ht
        have := h1.unique h5
        have := congrArg List.length this
        rw [chars_length, chars_length] at this
        omega
    · have hs := (hF a c s).2 ⟨h1, h3⟩
      rw [if_pos ⟨by rw [hs]; rfl, hl a c s hs⟩]
      exact hs

/-- The name character at a place. -/
def nm (m : Nat) : Nat := (chars nameS).getD m 0

/-- What a pair of a level leads to, by the first j characters. -/
def Cd (p q : List El) (F : PF) (i k j a c : Nat) (t : ByteArray) : Prop :=
  ∃ s m a1 b1, F i k = some s ∧ m < j ∧ stepF p i (nm m) = some a1 ∧ stepF q k (nm m) = some b1 ∧ Fr p a1 a ∧ Fr q b1 c ∧ t = s ++ bytesOf [nm m]

/-- What the pairs that have been gone over lead to. -/
def Dn (p q : List El) (F : PF) (left : Nat → Nat → Bool) (a c : Nat) (t : ByteArray) : Prop := ∃ i k, left i k = false ∧ Cd p q F i k 40 a c t

/-- The least of some strings, where nothing has been found yet. -/
structure MinIs (G F : PF) (C : Nat → Nat → ByteArray → Prop) : Prop where
  old : ∀ a c, (G a c).isSome = true → F a c = none
  no : ∀ a c, G a c = none → F a c = none → ∀ t, ¬ C a c t
  yes : ∀ a c s, F a c = some s → C a c s ∧ ∀ t, C a c t → Op.bytesLess t.toList s.toList = false

theorem MinIs.congr {G F : PF} {C D : Nat → Nat → ByteArray → Prop} (h : MinIs G F C) (hC : ∀ a c t, C a c t ↔ D a c t) : MinIs G F D :=
  ⟨h.old, fun a c h1 h2 t ht => h.no a c h1 h2 t ((hC a c t).2 ht), fun a c s hs => ⟨(hC a c s).1 (h.yes a c s hs).1, fun t ht => (h.yes a c s hs).2 t ((hC a c t).2 ht)⟩⟩

theorem min_visit {G F : PF} {C : Nat → Nat → ByteArray → Prop} (h : MinIs G F C) (text : ByteArray) (a c : Nat) : MinIs G (visit G text F a c) (fun x y t => C x y t ∨ (x = a ∧ y = c ∧ t = text)) := by
  unfold visit
  by_cases hg : (G a c).isSome = true
  · rw [if_pos hg]
    refine ⟨h.old, fun x y h1 h2 t ht => ?_, fun x y s hs => ?_⟩
    · rcases ht with ht | ⟨rfl, rfl, _⟩
      · exact h.no x y h1 h2 t ht
      · rw [h1] at hg; cases hg
    · obtain ⟨h1, h2⟩ := h.yes x y s hs
      refine ⟨.inl h1, fun t ht => ?_⟩
      rcases ht with ht | ⟨rfl, rfl, _⟩
      · exact h2 t ht
      · rw [h.old _ _ hg] at hs; cases hs
  · rw [if_neg hg]
    have hgn : G a c = none := by
      cases hh : G a c with
      | none => rfl
      | some g => rw [hh] at hg; exact absurd rfl hg
    refine ⟨fun x y hxy => ?_, fun x y h1 h2 t ht => ?_, fun x y s hs => ?_⟩
    · unfold putF
      by_cases he : x = a ∧ y = c
      · obtain ⟨rfl, rfl⟩ := he
        rw [hgn] at hxy; cases hxy
      · rw [if_neg he]; exact h.old x y hxy
    · unfold putF at h2
      split at h2
      · cases h2
      · rename_i he
        rcases ht with ht | ⟨rfl, rfl, _⟩
        · exact h.no x y h1 h2 t ht
        · exact he ⟨rfl, rfl⟩
    · unfold putF at hs
      split at hs
      · rename_i he
        obtain ⟨rfl, rfl⟩ := he
        cases hs
        cases hF : F x y with
        | none =>
          refine ⟨.inr ⟨rfl, rfl, rfl⟩, fun t ht => ?_⟩
          rcases ht with ht | ⟨_, _, rfl⟩
          · exact absurd ht (h.no x y hgn hF t)
          · show Op.bytesLess t.toList t.toList = false
            rw [less_lex, lexLt_irrefl]
        | some old =>
          obtain ⟨h1, h2⟩ := h.yes x y old hF
          simp only [better]
          split
          · rename_i hlt
            refine ⟨.inr ⟨trivial, trivial, rfl⟩, fun t ht => ?_⟩
            rcases ht with ht | ⟨_, _, rfl⟩
            · have h3 := h2 t ht
              cases hh : Op.bytesLess t.toList text.toList with
              | false => rfl
              | true =>
                rw [less_lex] at hh hlt h3
                rw [lexLt_trans hh hlt] at h3; cases h3
            · rw [less_lex, lexLt_irrefl]
          · rename_i hlt
            refine ⟨.inl h1, fun t ht => ?_⟩
            rcases ht with ht | ⟨_, _, rfl⟩
            · exact h2 t ht
            · simpa using hlt
      · rename_i he
        obtain ⟨h1, h2⟩ := h.yes x y s hs
        refine ⟨.inl h1, fun t ht => ?_⟩
        rcases ht with ht | ⟨rfl, rfl, _⟩
        · exact h2 t ht
        · exact absurd ⟨rfl, rfl⟩ he

theorem min_visits {G : PF} (text : ByteArray) (a : Nat) : ∀ (lc : List Nat) {F : PF} {C : Nat → Nat → ByteArray → Prop}, MinIs G F C → MinIs G (visits G text F a lc) (fun x y t => C x y t ∨ (x = a ∧ y ∈ lc ∧ t = text)) := by
  intro lc
  induction lc with
  | nil => intro F C h; exact h.congr fun x y t => by simp
  | cons c lc ih =>
    intro F C h
    refine (ih (min_visit h text a c)).congr fun x y t => ?_
    simp only [List.mem_cons]
    constructor
    · rintro ((h | ⟨h1, h2, h3⟩) | ⟨h1, h2, h3⟩)
      · exact .inl h
      · exact .inr ⟨h1, .inl h2, h3⟩
      · exact .inr ⟨h1, .inr h2, h3⟩
    · rintro (h | ⟨h1, h2 | h2, h3⟩)
      · exact .inl (.inl h)
      · exact .inl (.inr ⟨h1, h2, h3⟩)
      · exact .inr ⟨h1, h2, h3⟩

theorem min_reach {G : PF} (text : ByteArray) {p q : List El} {i k : Nat} (hi : i ≤ p.length) (hk : k ≤ q.length) {F : PF} {C : Nat → Nat → ByteArray → Prop} (h : MinIs G F C) : MinIs G (reachF F G p q i k text) (fun x y t => C x y t ∨ (Fr p i x ∧ Fr q k y ∧ t = text)) := by
  have hgen : ∀ (la : List Nat) {F : PF} {C : Nat → Nat → ByteArray → Prop}, MinIs G F C → MinIs G (la.foldl (fun F a => visits G text F a (freeL q k)) F) (fun x y t => C x y t ∨ (x ∈ la ∧ y ∈ freeL q k ∧ t = text)) := by
    intro la
    induction la with
    | nil => intro F C h; exact h.congr fun x y t => by simp
    | cons a la ih =>
      intro F C h
      refine (ih (min_visits text a (freeL q k) h)).congr fun x y t => ?_
      simp only [List.mem_cons]
      constructor
      · rintro ((h | ⟨h1, h2, h3⟩) | ⟨h1, h2, h3⟩)
        · exact .inl h
        · exact .inr ⟨.inl h1, h2, h3⟩
        · exact .inr ⟨.inr h1, h2, h3⟩
      · rintro (h | ⟨h1 | h1, h2, h3⟩)
        · exact .inl (.inl h)
        · exact .inl (.inr ⟨h1, h2, h3⟩)
        · exact .inr ⟨h1, h2, h3⟩
  refine (hgen (freeL p i) h).congr fun x y t => ?_
  rw [free_mem p _ i rfl hi, free_mem q _ k rfl hk]

theorem min_empty (G : PF) : MinIs G (fun _ _ => none) (fun _ _ _ => False) := ⟨fun _ _ _ => rfl, fun _ _ _ _ _ h => h, fun _ _ _ h => (by cases h)⟩

/-- The first level. -/
theorem level_zero (p q : List El) : LevIs p q 0 (reachF (fun _ _ => none) (fun _ _ => none) p q 0 0 ByteArray.empty) := by
  have h := min_reach ByteArray.empty (p := p) (q := q) (i := 0) (k := 0) (by omega) (by omega) (min_empty fun _ _ => none)
  intro a c s
  constructor
  · intro hs
    obtain ⟨h1, _⟩ := h.yes a c s hs
    rcases h1 with h1 | ⟨h1, h2, rfl⟩
    · exact h1.elim
    · refine ⟨⟨⟨Rc_nil_iff.2 h1, Rc_nil_iff.2 h2⟩, fun v _ => ?_⟩, rfl⟩
      rw [slLe_iff]
      cases v with
      | nil => exact .inr ⟨rfl, rfl⟩
      | cons x v => left; simp [chars]
  · rintro ⟨h1, h2⟩
    obtain rfl : s = ByteArray.empty := ByteArray.ext (Array.eq_empty_of_size_eq_zero h2)
    have h3 : Fr p 0 a := Rc_nil_iff.1 h1.1.1
    have h4 : Fr q 0 c := Rc_nil_iff.1 h1.1.2
    cases hF : reachF (fun _ _ => none) (fun _ _ => none) p q 0 0 ByteArray.empty a c with
    | none => exact absurd (.inr ⟨h3, h4, rfl⟩) (h.no a c rfl hF ByteArray.empty)
    | some t =>
      rcases (h.yes a c t hF).1 with h5 | ⟨_, _, rfl⟩
      · exact h5.elim
      · rfl

theorem chars_append (a b : ByteArray) : chars (a ++ b) = chars a ++ chars b := by simp [chars]

/-- The next level. -/
theorem level_next {p q : List El} (hp : ∀ x ∈ p, x.ok) (hq : ∀ x ∈ q, x.ok) {k : Nat} {F G F' : PF} {left : Nat → Nat → Bool} (hF : LevIs p q k F) (hG : FndIs p q (k + 1) G) (hl : ∀ a c s, F a c = some s → left a c = false) (hM : MinIs G F' (Dn p q F left)) :
    LevIs p q (k + 1) F' := by
  have hn128 : ∀ m, m < 40 → nm m < 256 := fun m hm => by have := nameS_lt m hm; show (chars nameS).getD m 0 < 256; omega
  -- what is a candidate leads there, and has the right length
  have hcand : ∀ a c t, Dn p q F left a c t → Tp p q a c (chars t) ∧ t.size = k + 1 := by
    rintro a c t ⟨i, k', _, s, m, a1, b1, h1, hm, h2, h3, h4, h5, rfl⟩
    obtain ⟨h6, h7⟩ := (hF i k' s).1 h1
    rw [chars_append, chars_bytesOf (by intro x hx; rw [List.mem_singleton.1 hx]; exact hn128 m hm)]
    refine ⟨⟨Rc_snoc_iff.2 ⟨i, a1, h6.1.1, h2, h4⟩, Rc_snoc_iff.2 ⟨k', b1, h6.1.2, h3, h5⟩⟩, ?_⟩
    rw [ByteArray.size_append, bytesOf_size, h7]; rfl
  -- a best string of that length is a candidate
  have hbest : ∀ a c (b : List Nat), BestP p q a c b → b.length = k + 1 → ∃ t, chars t = b ∧ Dn p q F left a c t := by
    intro a c b hb hbl
    obtain ⟨i, k', s, ch, a1, b1, hs, hsl, hch, h2, h3, h4, h5, rfl⟩ := best_pred hp hq hb hbl
    obtain ⟨m, hm, hme⟩ := nameS_mem ch (named_lt hch) hch
    have hsm : ∀ x ∈ s, x < 256 := fun x hx => by have := named_lt (Rc.named hp hs.1.1 x hx); omega
    have hFs : F i k' = some (bytesOf s) := (hF i k' _).2 ⟨by rw [chars_bytesOf hsm]; exact hs, by rw [bytesOf_size]; exact hsl⟩
    have hnm : nm m = ch := hme
    refine ⟨bytesOf s ++ bytesOf [nm m], ?_, i, k', hl i k' _ hFs, bytesOf s, m, a1, b1, hFs, hm, by rw [hnm]; exact h2, by rw [hnm]; exact h3, h4, h5, rfl⟩
    rw [chars_append, chars_bytesOf hsm, hnm, chars_bytesOf (by intro x hx; rw [List.mem_singleton.1 hx, ← hnm]; exact hn128 m hm)]
  have hfwd : ∀ a c s, F' a c = some s → BestP p q a c (chars s) ∧ s.size = k + 1 := by
    intro a c s hs
    obtain ⟨h1, h2⟩ := hM.yes a c s hs
    obtain ⟨h3, h4⟩ := hcand a c s h1
    obtain ⟨b, hb, hle⟩ := best_of hp hq h3
    have hbl : b.length ≤ k + 1 := by have := slLe_len hle; rw [chars_length] at this; omega
    have hbs : ∀ x ∈ b, x < 256 := fun x hx => by have := named_lt (Rc.named hp hb.1.1 x hx); omega
    have hbe : b.length = k + 1 := by
      rcases Nat.lt_or_ge b.length (k + 1) with h5 | h5
      · exfalso
        have hg := (hG a c (bytesOf b)).2 ⟨by rw [chars_bytesOf hbs]; exact hb, by rw [bytesOf_size]; exact h5⟩
        rw [hM.old a c (by rw [hg]; rfl)] at hs
        cases hs
      · omega
    obtain ⟨t, ht1, ht2⟩ := hbest a c b hb hbe
    have h6 := h2 t ht2
    rw [less_lex, ht1] at h6
    have hbc : b = chars s := by
      rw [slLe_iff] at hle
      rcases hle with h7 | ⟨_, h7⟩
      · rw [chars_length] at h7; omega
      · rcases lexLt_total b (chars s) with h8 | h8 | h8
        · rw [h8] at h6; cases h6
        · exact h8
        · rw [h8] at h7; cases h7
    rw [← hbc]
    exact ⟨hb, h4⟩
  intro a c s
  refine ⟨hfwd a c s, ?_⟩
  rintro ⟨h1, h2⟩
  have hgn : G a c = none := by
    cases hg : G a c with
    | none => rfl
    | some g =>
      obtain ⟨h3, h4⟩ := (hG a c g).1 hg
      have := congrArg List.length (h1.unique h3)
      rw [chars_length, chars_length] at this
      omega
  obtain ⟨t, ht1, ht2⟩ := hbest a c (chars s) h1 (by rw [chars_length]; exact h2)
  cases hF' : F' a c with
  | none => exact absurd ht2 (hM.no a c hgn hF' t)
  | some s' =>
    obtain ⟨h3, _⟩ := hfwd a c s' hF'
    rw [chars_inj (h3.unique h1)]

/-- The answer where the end is met. -/
theorem end_some {p q : List El} (hp : ∀ x ∈ p, x.ok) (hq : ∀ x ∈ q, x.ok) {k : Nat} {F : PF} (hF : LevIs p q k F) {s : ByteArray} (hs : F p.length q.length = some s) : bestF p q = some (chars s) := by
  obtain ⟨h1, _⟩ := (hF _ _ s).1 hs
  exact (bestF_ok hp hq).unique (IsBest.congr (fun w => by unfold Tp Both; rw [Rc_iff, Rc_iff]) h1)

/-- The answer where a level is empty and the end has not been met. -/
theorem end_none {p q : List El} (hp : ∀ x ∈ p, x.ok) (hq : ∀ x ∈ q, x.ok) {k : Nat} {F : PF} (hF : LevIs p q k F) (h0 : ∀ a c, F a c = none) (he : ∀ w, BestP p q p.length q.length w → k ≤ w.length) : bestF p q = none := by
  cases hb : bestF p q with
  | none => rfl
  | some b =>
    exfalso
    have h1 := bestF_ok hp hq
    rw [hb] at h1
    have h2 : BestP p q p.length q.length b := IsBest.congr (fun w => by unfold Tp Both; rw [Rc_iff, Rc_iff]) h1
    obtain ⟨a, c, w, h3, h4⟩ := best_chain hp hq _ h2 rfl k (he b h2)
    have hws : ∀ x ∈ w, x < 256 := fun x hx => by have := named_lt (Rc.named hp h3.1.1 x hx); omega
    have := (hF a c (bytesOf w)).2 ⟨by rw [chars_bytesOf hws]; exact h3, by rw [bytesOf_size]; exact h4⟩
    rw [h0] at this
    cases this

theorem end_later {p q : List El} (hp : ∀ x ∈ p, x.ok) {k : Nat} {F : PF} (hF : LevIs p q k F) (hn : F p.length q.length = none) (he : ∀ w, BestP p q p.length q.length w → k ≤ w.length) : ∀ w, BestP p q p.length q.length w → k + 1 ≤ w.length := by
  intro w hw
  rcases Nat.lt_or_ge k w.length with h | h
  · exact h
  · exfalso
    have h1 := he w hw
    have hws : ∀ x ∈ w, x < 256 := fun x hx => by have := named_lt (Rc.named hp hw.1.1 x hx); omega
    have := (hF _ _ (bytesOf w)).2 ⟨by rw [chars_bytesOf hws]; exact hw, by rw [bytesOf_size]; omega⟩
    rw [hn] at this
    cases this

end Go.Proofs.YtgnmanmlnbidfaaDoor
