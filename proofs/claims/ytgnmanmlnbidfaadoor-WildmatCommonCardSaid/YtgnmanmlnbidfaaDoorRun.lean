/- Wildmat: the positions that a pattern reaches, and the program's sets of positions, as plain mathematics. -/
import Derived.Test.YtgnmanmlnbidfaaDoorParse
namespace Go.Proofs.YtgnmanmlnbidfaaDoor

/-- The positions that a pattern reaches by a string. -/
inductive Rc (L : List El) : List Nat → Nat → Prop
  | start : Rc L [] 0
  | skip {w : List Nat} {a : Nat} : Rc L w a → a < L.length → (elAt L a).isStar = true → Rc L w (a + 1)
  | eat {w : List Nat} {a c : Nat} : Rc L w a → a < L.length → (elAt L a).isStar = true → namedB c = true → Rc L (w ++ [c]) a
  | one {w : List Nat} {a c : Nat} : Rc L w a → a < L.length → (elAt L a).isStar = false → (elAt L a).has c = true → Rc L (w ++ [c]) (a + 1)

theorem Rc.le {L : List El} {w : List Nat} {a : Nat} (h : Rc L w a) : a ≤ L.length := by
  induction h with
  | start => omega
  | skip _ h _ _ => omega
  | eat _ h _ _ _ => omega
  | one _ h _ _ _ => omega

theorem drop_el {L : List El} {a : Nat} (h : a < L.length) : L.drop a = elAt L a :: L.drop (a + 1) := by
  rw [List.drop_eq_getElem_cons h, elAt, List.getD_eq_getElem?_getD, List.getElem?_eq_getElem h]; rfl

theorem star_has {e : El} (h : e.isStar = true) (c : Nat) : e.has c = namedB c := by
  cases e with
  | star => rfl
  | _ => cases h

theorem Rc.eats {L : List El} {w : List Nat} {a : Nat} (h : Rc L w a) (ha : a < L.length) (hs : (elAt L a).isStar = true) (u : List Nat) (hu : ∀ c ∈ u, namedB c = true) : Rc L (w ++ u) a := by
  induction u generalizing w with
  | nil => simpa using h
  | cons c u ih =>
    have := ih (h.eat ha hs (hu c (by simp))) (fun x hx => hu x (by simp [hx]))
    simpa using this

theorem Rc.finish {L : List El} : ∀ (m a : Nat) (w v : List Nat), L.length - a = m → Rc L w a → Mt (L.drop a) v → Rc L (w ++ v) L.length := by
  intro m
  induction m with
  | zero =>
    intro a w v hm h hv
    have := h.le
    obtain rfl : a = L.length := by omega
    rw [List.drop_length] at hv
    cases hv
    simpa using h
  | succ m ih =>
    intro a w v hm h hv
    have ha : a < L.length := by omega
    rw [drop_el ha] at hv
    obtain ⟨u, x, rfl, h1, h2⟩ := hv
    cases hs : (elAt L a).isStar with
    | true =>
      have h3 := (h.eats ha hs u ((takes_star hs u).1 h1)).skip ha hs
      have := ih (a + 1) _ x (by omega) h3 h2
      simpa using this
    | false =>
      obtain ⟨c, rfl, hc⟩ := (takes_no hs u).1 h1
      have := ih (a + 1) _ x (by omega) (h.one ha hs hc) h2
      simpa using this

theorem Rc.sound {L : List El} {w : List Nat} {a : Nat} (h : Rc L w a) : ∀ v, Mt (L.drop a) v → Mt L (w ++ v) := by
  induction h with
  | start => intro v hv; simpa using hv
  | skip _ ha hs ih =>
    intro v hv
    apply ih
    rw [drop_el ha]
    exact ⟨[], v, rfl, (takes_star hs _).2 (by simp), hv⟩
  | @eat w a c _ ha hs hc ih =>
    intro v hv
    rw [drop_el ha] at hv
    obtain ⟨u, x, rfl, h1, h2⟩ := hv
    have := ih (c :: (u ++ x)) (by
      rw [drop_el ha]
      refine ⟨c :: u, x, rfl, (takes_star hs _).2 ?_, h2⟩
      intro d hd
      rcases List.mem_cons.1 hd with rfl | hd
      · exact hc
      · exact (takes_star hs _).1 h1 d hd)
    simpa using this
  | @one w a c _ ha hs hc ih =>
    intro v hv
    have := ih (c :: v) (by
      rw [drop_el ha]
      exact ⟨[c], v, rfl, (takes_no hs _).2 ⟨c, rfl, hc⟩, hv⟩)
    simpa using this

theorem Rc_iff (L : List El) (w : List Nat) : Rc L w L.length ↔ Mt L w := by
  constructor
  · intro h
    have := h.sound [] (by rw [List.drop_length]; rfl)
    simpa using this
  · intro h
    have := Rc.finish (L := L) L.length 0 [] w (by omega) .start (by simpa using h)
    simpa using this

/-- The position behind a character, if there is one. -/
def stepF (L : List El) (a c : Nat) : Option Nat := if a < L.length ∧ (elAt L a).has c = true then some (if (elAt L a).isStar = true then a else a + 1) else none

/-- Does one position reach another without a character? -/
def Fr (L : List El) (a b : Nat) : Prop := a ≤ b ∧ b ≤ L.length ∧ ∀ i, a ≤ i → i < b → (elAt L i).isStar = true

theorem Fr.refl {L : List El} {a : Nat} (h : a ≤ L.length) : Fr L a a := ⟨Nat.le_refl _, h, fun i h1 h2 => by omega⟩

theorem Fr.next {L : List El} {a b : Nat} (h : Fr L a b) (hb : b < L.length) (hs : (elAt L b).isStar = true) : Fr L a (b + 1) :=
  ⟨by have := h.1; omega, hb, fun i h1 h2 => by
    rcases Nat.lt_succ_iff_lt_or_eq.1 h2 with h3 | rfl
    · exact h.2.2 i h1 h3
    · exact hs⟩

theorem Rc.free {L : List El} {w : List Nat} {a b : Nat} (h : Rc L w a) (hf : Fr L a b) : Rc L w b := by
  obtain ⟨h1, h2, h3⟩ := hf
  induction b with
  | zero => obtain rfl : a = 0 := by omega
            exact h
  | succ b ih =>
    rcases Nat.lt_or_ge b a with h4 | h4
    · obtain rfl : a = b + 1 := by omega
      exact h
    · exact (ih h4 (by omega) (fun i h5 h6 => h3 i h5 (by omega))).skip (by omega) (h3 b h4 (by omega))

theorem Rc.step {L : List El} {w : List Nat} {a a1 c : Nat} (h : Rc L w a) (hs : stepF L a c = some a1) : Rc L (w ++ [c]) a1 := by
  unfold stepF at hs
  split at hs
  · rename_i hc
    simp only [Option.some.injEq] at hs
    subst hs
    cases hst : (elAt L a).isStar with
    | true =>
      rw [if_pos rfl]
      exact h.eat hc.1 hst (by rw [← star_has hst]; exact hc.2)
    | false =>
      rw [if_neg (by simp)]
      exact h.one hc.1 hst hc.2
  · cases hs

theorem Rc_nil_iff {L : List El} {a : Nat} : Rc L [] a ↔ Fr L 0 a := by
  constructor
  · intro h
    generalize hw : ([] : List Nat) = w at h
    induction h with
    | start => exact Fr.refl (by omega)
    | skip _ ha hs ih => exact (ih hw).next ha hs
    | eat => simp at hw
    | one => simp at hw
  · intro h; exact Rc.start.free h

theorem Rc_snoc_iff {L : List El} {w : List Nat} {c a : Nat} : Rc L (w ++ [c]) a ↔ ∃ b a1, Rc L w b ∧ stepF L b c = some a1 ∧ Fr L a1 a := by
  constructor
  · intro h
    generalize hw : w ++ [c] = x at h
    induction h with
    | start => simp at hw
    | skip _ ha hs ih =>
      obtain ⟨b, a1, h1, h2, h3⟩ := ih hw
      exact ⟨b, a1, h1, h2, h3.next ha hs⟩
    | @eat w' a d h ha hs hc _ =>
      obtain ⟨rfl, h'⟩ := List.append_inj' hw rfl
      obtain rfl : c = d := by simpa using h'
      exact ⟨a, a, h, by rw [stepF, if_pos ⟨ha, by rw [star_has hs]; exact hc⟩, if_pos hs], Fr.refl (by omega)⟩
    | @one w' a d h ha hs hc _ =>
      obtain ⟨rfl, h'⟩ := List.append_inj' hw rfl
      obtain rfl : c = d := by simpa using h'
      exact ⟨a, a + 1, h, by rw [stepF, if_pos ⟨ha, hc⟩, if_neg (by rw [hs]; simp)], Fr.refl (by omega)⟩
  · rintro ⟨b, a1, h1, h2, h3⟩
    exact (h1.step h2).free h3

/-- The positions from one on that it reaches without a character, noted in a set. -/
def enterF (L : List El) : Nat → List Bool → Nat → List Bool
  | 0, S, a => S.set a true
  | n + 1, S, a => if a < L.length ∧ (elAt L a).isStar = true then enterF L n (S.set a true) (a + 1) else S.set a true

/-- A set with what a position adds. -/
def enter (L : List El) (S : List Bool) (a : Nat) : List Bool := enterF L (L.length - a) S a

theorem enter_star {L : List El} {S : List Bool} {a : Nat} (ha : a < L.length) (hs : (elAt L a).isStar = true) : enter L S a = enter L (S.set a true) (a + 1) := by
  unfold enter
  obtain ⟨n, hn⟩ : ∃ n, L.length - a = n + 1 := ⟨L.length - a - 1, by omega⟩
  rw [hn, enterF, if_pos ⟨ha, hs⟩, show L.length - (a + 1) = n by omega]

theorem enter_stop {L : List El} {S : List Bool} {a : Nat} (h : L.length ≤ a ∨ (elAt L a).isStar = false) : enter L S a = S.set a true := by
  unfold enter
  cases hn : L.length - a with
  | zero => rfl
  | succ n =>
    rw [enterF, if_neg]
    rintro ⟨h1, h2⟩
    rcases h with h | h
    · omega
    · rw [h] at h2; cases h2

theorem enterF_length (L : List El) : ∀ (n : Nat) (S : List Bool) (a : Nat), (enterF L n S a).length = S.length := by
  intro n
  induction n with
  | zero => intro S a; simp [enterF]
  | succ n ih =>
    intro S a
    rw [enterF]
    split
    · rw [ih]; simp
    · simp

theorem enter_length (L : List El) (S : List Bool) (a : Nat) : (enter L S a).length = S.length := enterF_length L _ S a

theorem set_true (S : List Bool) (a i : Nat) (ha : a < S.length) : (S.set a true).getD i false = true ↔ S.getD i false = true ∨ i = a := by
  rw [List.getD_eq_getElem?_getD, List.getD_eq_getElem?_getD, List.getElem?_set]
  by_cases h : a = i
  · subst h; simp [ha]
  · rw [if_neg h]
    constructor
    · intro h'; exact .inl h'
    · rintro (h' | h')
      · exact h'
      · exact absurd h'.symm h

theorem enter_iff (L : List El) : ∀ (n : Nat) (S : List Bool) (a : Nat), L.length - a = n → a ≤ L.length → S.length = L.length + 1 → ∀ i, ((enter L S a).getD i false = true ↔ S.getD i false = true ∨ Fr L a i) := by
  intro n
  induction n with
  | zero =>
    intro S a hn ha hS i
    rw [enter_stop (.inl (by omega)), set_true _ _ _ (by omega)]
    constructor
    · rintro (h | rfl)
      · exact .inl h
      · exact .inr (Fr.refl ha)
    · rintro (h | ⟨h1, h2, _⟩)
      · exact .inl h
      · exact .inr (by omega)
  | succ n ih =>
    intro S a hn ha hS i
    cases hs : (elAt L a).isStar with
    | true =>
      rw [enter_star (by omega) hs, ih _ (a + 1) (by omega) (by omega) (by simpa using hS), set_true _ _ _ (by omega)]
      constructor
      · rintro ((h | rfl) | ⟨h1, h2, h3⟩)
        · exact .inl h
        · exact .inr (Fr.refl ha)
        · refine .inr ⟨by omega, h2, fun j h4 h5 => ?_⟩
          rcases Nat.lt_or_ge a j with h6 | h6
          · exact h3 j h6 h5
          · obtain rfl : j = a := by omega
            exact hs
      · rintro (h | ⟨h1, h2, h3⟩)
        · exact .inl (.inl h)
        · rcases Nat.lt_or_ge a i with h6 | h6
          · exact .inr ⟨h6, h2, fun j h4 h5 => h3 j (by omega) h5⟩
          · exact .inl (.inr (by omega))
    | false =>
      rw [enter_stop (.inr hs), set_true _ _ _ (by omega)]
      constructor
      · rintro (h | rfl)
        · exact .inl h
        · exact .inr (Fr.refl ha)
      · rintro (h | ⟨h1, h2, h3⟩)
        · exact .inl h
        · rcases Nat.lt_or_ge a i with h6 | h6
          · have := h3 a (Nat.le_refl _) h6
            rw [hs] at this; cases this
          · exact .inr (by omega)

/-- The set behind a character, the first k elements having been gone over. -/
def nextF (L : List El) (S : List Bool) (c : Nat) : Nat → List Bool
  | 0 => List.replicate (L.length + 1) false
  | k + 1 => if S.getD k false = true ∧ (elAt L k).has c = true then enter L (nextF L S c k) (if (elAt L k).isStar = true then k else k + 1) else nextF L S c k

theorem nextF_length (L : List El) (S : List Bool) (c : Nat) : ∀ k, (nextF L S c k).length = L.length + 1 := by
  intro k
  induction k with
  | zero => simp [nextF]
  | succ k ih =>
    rw [nextF]
    split
    · rw [enter_length]; exact ih
    · exact ih

theorem nextF_iff (L : List El) (S : List Bool) (c : Nat) : ∀ k, k ≤ L.length → ∀ i, ((nextF L S c k).getD i false = true ↔ ∃ b a1, b < k ∧ S.getD b false = true ∧ stepF L b c = some a1 ∧ Fr L a1 i) := by
  intro k
  induction k with
  | zero =>
    intro _ i
    constructor
    · intro h
      rw [nextF, List.getD_eq_getElem?_getD] at h
      cases h' : (List.replicate (L.length + 1) false)[i]? with
      | none => rw [h'] at h; cases h
      | some b =>
        rw [h'] at h
        rw [List.getElem?_replicate] at h'
        split at h'
        · cases h'; cases h
        · cases h'
    · rintro ⟨b, a1, h, _⟩; omega
  | succ k ih =>
    intro hk i
    rw [nextF]
    by_cases hc : S.getD k false = true ∧ (elAt L k).has c = true
    · rw [if_pos hc]
      have hst : stepF L k c = some (if (elAt L k).isStar = true then k else k + 1) := by rw [stepF, if_pos ⟨by omega, hc.2⟩]
      rw [enter_iff L _ _ _ rfl (by split <;> omega) (nextF_length _ _ _ _), ih (by omega)]
      constructor
      · rintro (⟨b, a1, h1, h2⟩ | h)
        · exact ⟨b, a1, by omega, h2⟩
        · exact ⟨k, _, by omega, hc.1, hst, h⟩
      · rintro ⟨b, a1, h1, h2, h3, h4⟩
        rcases Nat.lt_succ_iff_lt_or_eq.1 h1 with h5 | rfl
        · exact .inl ⟨b, a1, h5, h2, h3, h4⟩
        · rw [hst] at h3
          cases h3
          exact .inr h4
    · rw [if_neg hc, ih (by omega)]
      constructor
      · rintro ⟨b, a1, h1, h2⟩
        exact ⟨b, a1, by omega, h2⟩
      · rintro ⟨b, a1, h1, h2, h3, h4⟩
        rcases Nat.lt_succ_iff_lt_or_eq.1 h1 with h5 | rfl
        · exact ⟨b, a1, h5, h2, h3, h4⟩
        · exfalso
          apply hc
          refine ⟨h2, ?_⟩
          unfold stepF at h3
          split at h3
          · rename_i h6; exact h6.2
          · cases h3

/-- The set behind i characters. -/
def setF (L : List El) (l : List Nat) : Nat → List Bool
  | 0 => enter L (List.replicate (L.length + 1) false) 0
  | i + 1 => nextF L (setF L l i) (l.getD i 0) L.length

theorem setF_length (L : List El) (l : List Nat) (i : Nat) : (setF L l i).length = L.length + 1 := by
  cases i with
  | zero => rw [setF, enter_length]; simp
  | succ i => exact nextF_length _ _ _ _

theorem setF_iff (L : List El) (l : List Nat) : ∀ i, i ≤ l.length → ∀ a, ((setF L l i).getD a false = true ↔ Rc L (l.take i) a) := by
  intro i
  induction i with
  | zero =>
    intro _ a
    rw [setF, enter_iff L _ _ _ rfl (by omega) (by simp), List.take_zero, Rc_nil_iff]
    constructor
    · rintro (h | h)
      · rw [List.getD_eq_getElem?_getD] at h
        cases h' : (List.replicate (L.length + 1) false)[a]? with
        | none => rw [h'] at h; cases h
        | some b =>
          rw [h'] at h
          rw [List.getElem?_replicate] at h'
          split at h'
          · cases h'; cases h
          · cases h'
      · exact h
    · intro h; exact .inr h
  | succ i ih =>
    intro hi a
    rw [setF, nextF_iff L _ _ _ (Nat.le_refl _), take_snoc l 0 (by omega), Rc_snoc_iff]
    have ih' := ih (by omega)
    constructor
    · rintro ⟨b, a1, h1, h2, h3, h4⟩
      exact ⟨b, a1, (ih' b).1 h2, h3, h4⟩
    · rintro ⟨b, a1, h1, h2, h3⟩
      refine ⟨b, a1, ?_, (ih' b).2 h1, h2, h3⟩
      unfold stepF at h2
      split at h2
      · rename_i h6; exact h6.1
      · cases h2

/-- The program's answer. -/
theorem match_set (L : List El) (l : List Nat) : (setF L l l.length).getD L.length false = matchF L l := by
  rw [Bool.eq_iff_iff, setF_iff L l _ (Nat.le_refl _), List.take_length, Rc_iff, matchF_iff]

end Go.Proofs.YtgnmanmlnbidfaaDoor
