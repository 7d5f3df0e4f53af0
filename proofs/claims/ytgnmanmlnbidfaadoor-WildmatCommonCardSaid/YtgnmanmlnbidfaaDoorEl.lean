/- Wildmat: elements of patterns, what they match, and the table of prefixes, as plain mathematics. -/
namespace Go.Proofs.YtgnmanmlnbidfaaDoor

/-- A name character. -/
def namedB (c : Nat) : Bool := (decide (97 ≤ c) && decide (c ≤ 122)) || (decide (48 ≤ c) && decide (c ≤ 57)) || decide (c = 43) || decide (c = 45) || decide (c = 95) || decide (c = 46)

theorem named_lt {c : Nat} (h : namedB c = true) : c < 128 := by
  simp only [namedB, Bool.or_eq_true, Bool.and_eq_true, decide_eq_true_eq] at h
  omega

/-- An element of a pattern. -/
inductive El where
  | one (c : Nat)
  | cls (set : List Nat) (inv : Bool)
  | star
  deriving DecidableEq

def El.isStar : El → Bool
  | .star => true
  | _ => false

def El.has : El → Nat → Bool
  | .one d, c => d == c
  | .cls set inv, c => namedB c && (set.contains c != inv)
  | .star, c => namedB c

/-- An element as a parser makes it. -/
def El.ok : El → Prop
  | .one d => namedB d = true
  | _ => True

theorem El.named_of_has {e : El} (he : e.ok) {c : Nat} (h : e.has c = true) : namedB c = true := by
  cases e with
  | one d =>
    have : d = c := by simpa [El.has] using h
    subst this; exact he
  | cls s i => simp only [El.has, Bool.and_eq_true] at h; exact h.1
  | star => exact h

/-- What an element stands for. -/
def El.takes (e : El) (u : List Nat) : Prop := if e.isStar then ∀ c ∈ u, namedB c = true else ∃ c, u = [c] ∧ e.has c = true

/-- What a list of elements matches. -/
def Mt : List El → List Nat → Prop
  | [], w => w = []
  | e :: L, w => ∃ u v, w = u ++ v ∧ e.takes u ∧ Mt L v

theorem Mt_append (A B : List El) (w : List Nat) : Mt (A ++ B) w ↔ ∃ u v, w = u ++ v ∧ Mt A u ∧ Mt B v := by
  induction A generalizing w with
  | nil =>
    simp only [List.nil_append, Mt]
    constructor
    · intro h; exact ⟨[], w, rfl, rfl, h⟩
    · rintro ⟨u, v, rfl, rfl, h⟩; exact h
  | cons e A ih =>
    simp only [List.cons_append, Mt]
    constructor
    · rintro ⟨u, v, rfl, h1, h2⟩
      obtain ⟨x, y, rfl, h3, h4⟩ := (ih v).1 h2
      exact ⟨u ++ x, y, by simp, ⟨u, x, rfl, h1, h3⟩, h4⟩
    · rintro ⟨u, v, rfl, ⟨x, y, rfl, h1, h2⟩, h3⟩
      exact ⟨x, y ++ v, by simp, h1, (ih _).2 ⟨y, v, rfl, h2, h3⟩⟩

theorem Mt_single (e : El) (w : List Nat) : Mt [e] w ↔ e.takes w := by
  simp only [Mt]
  constructor
  · rintro ⟨u, v, rfl, h, rfl⟩
    simpa using h
  · intro h
    exact ⟨w, [], by simp, h, rfl⟩

theorem takes_star {e : El} (h : e.isStar = true) (u : List Nat) : e.takes u ↔ ∀ c ∈ u, namedB c = true := by
  unfold El.takes; rw [if_pos h]

theorem takes_no {e : El} (h : e.isStar = false) (u : List Nat) : e.takes u ↔ ∃ c, u = [c] ∧ e.has c = true := by
  unfold El.takes; rw [if_neg (by rw [h]; simp)]

theorem Mt_named {L : List El} (hL : ∀ e ∈ L, e.ok) {w : List Nat} (h : Mt L w) : ∀ c ∈ w, namedB c = true := by
  induction L generalizing w with
  | nil => cases h; simp
  | cons e L ih =>
    obtain ⟨u, v, rfl, h1, h2⟩ := h
    intro c hc
    rcases List.mem_append.1 hc with hc | hc
    · cases hs : e.isStar with
      | true => exact (takes_star hs u).1 h1 c hc
      | false =>
        obtain ⟨d, rfl, hd⟩ := (takes_no hs u).1 h1
        obtain rfl : c = d := by simpa using hc
        exact El.named_of_has (hL e (by simp)) hd
    · exact ih (fun e he => hL e (by simp [he])) h2 c hc

/-- One element more, at the end: no character left. -/
theorem Mt_snoc_nil (L : List El) (e : El) : Mt (L ++ [e]) [] ↔ e.isStar = true ∧ Mt L [] := by
  rw [Mt_append]
  constructor
  · rintro ⟨u, v, h, h1, h2⟩
    obtain ⟨rfl, rfl⟩ := List.append_eq_nil_iff.1 h.symm
    refine ⟨?_, h1⟩
    rw [Mt_single] at h2
    cases hs : e.isStar with
    | true => rfl
    | false =>
      obtain ⟨c, hc, _⟩ := (takes_no hs []).1 h2
      cases hc
  · rintro ⟨h1, h2⟩
    exact ⟨[], [], rfl, h2, (Mt_single e []).2 ((takes_star h1 []).2 (by simp))⟩

theorem Mt_snoc_star (L : List El) (e : El) (hs : e.isStar = true) (w : List Nat) (c : Nat) : Mt (L ++ [e]) (w ++ [c]) ↔ Mt L (w ++ [c]) ∨ (Mt (L ++ [e]) w ∧ namedB c = true) := by
  rw [Mt_append, Mt_append]
  constructor
  · rintro ⟨u, v, h, h1, h2⟩
    rw [Mt_single, takes_star hs] at h2
    rcases List.eq_nil_or_concat v with rfl | ⟨v', d, rfl⟩
    · left
      rw [List.append_nil] at h
      rw [h]; exact h1
    · right
      rw [List.concat_eq_append, ← List.append_assoc] at h
      obtain ⟨rfl, h'⟩ := List.append_inj' h rfl
      obtain rfl : c = d := by simpa using h'
      exact ⟨⟨u, v', rfl, h1, (Mt_single _ _).2 ((takes_star hs _).2 (fun x hx => h2 x (by simp [hx])))⟩, h2 c (by simp)⟩
  · rintro (h | ⟨⟨u, v, rfl, h1, h2⟩, hc⟩)
    · exact ⟨w ++ [c], [], by simp, h, (Mt_single _ _).2 ((takes_star hs _).2 (by simp))⟩
    · rw [Mt_single, takes_star hs] at h2
      refine ⟨u, v ++ [c], by simp, h1, (Mt_single _ _).2 ((takes_star hs _).2 ?_)⟩
      intro x hx
      rcases List.mem_append.1 hx with hx | hx
      · exact h2 x hx
      · obtain rfl : x = c := by simpa using hx
        exact hc

theorem Mt_snoc_no (L : List El) (e : El) (hs : e.isStar = false) (w : List Nat) (c : Nat) : Mt (L ++ [e]) (w ++ [c]) ↔ Mt L w ∧ e.has c = true := by
  rw [Mt_append]
  constructor
  · rintro ⟨u, v, h, h1, h2⟩
    rw [Mt_single, takes_no hs] at h2
    obtain ⟨d, rfl, hd⟩ := h2
    obtain ⟨rfl, h'⟩ := List.append_inj' h rfl
    obtain rfl : c = d := by simpa using h'
    exact ⟨h1, hd⟩
  · rintro ⟨h1, h2⟩
    exact ⟨w, [c], rfl, h1, (Mt_single _ _).2 ((takes_no hs _).2 ⟨c, rfl, h2⟩)⟩

def elAt (L : List El) (k : Nat) : El := L.getD k .star

/-- Do the first k elements match the first i characters? -/
def MT (L : List El) (l : List Nat) : Nat → Nat → Bool
  | 0, i => decide (i = 0)
  | k + 1, 0 => (elAt L k).isStar && MT L l k 0
  | k + 1, i + 1 => if (elAt L k).isStar then MT L l k (i + 1) || (MT L l (k + 1) i && namedB (l.getD i 0)) else MT L l k i && (elAt L k).has (l.getD i 0)

def matchF (L : List El) (l : List Nat) : Bool := MT L l L.length l.length

theorem take_snoc {α : Type} (l : List α) (d : α) {k : Nat} (h : k < l.length) : l.take (k + 1) = l.take k ++ [l.getD k d] := by
  rw [List.take_succ_eq_append_getElem h, List.getD_eq_getElem?_getD, List.getElem?_eq_getElem h]; rfl

theorem MT_iff (L : List El) (l : List Nat) : ∀ k, k ≤ L.length → ∀ i, i ≤ l.length → (MT L l k i = true ↔ Mt (L.take k) (l.take i)) := by
  intro k
  induction k with
  | zero =>
    intro _ i hi
    simp only [MT, decide_eq_true_eq, List.take_zero, Mt]
    constructor
    · rintro rfl; rfl
    · intro h
      have := congrArg List.length h
      simp at this
      rcases this with h | h
      · exact h
      · subst h; simpa using hi
  | succ k ih =>
    intro hk i
    have ht := take_snoc L .star (k := k) (by omega)
    induction i with
    | zero =>
      intro _
      rw [ht, List.take_zero, Mt_snoc_nil]
      have := ih (by omega) 0 (by omega)
      rw [List.take_zero] at this
      simp only [MT, Bool.and_eq_true, this, elAt]
    | succ i ih2 =>
      intro hi
      have hti := take_snoc l 0 (k := i) (by omega)
      have h1 := ih (by omega) (i + 1) hi
      have h2 := ih (by omega) i (by omega)
      have h3 := ih2 (by omega)
      rw [ht] at h3
      rw [hti] at h1
      rw [ht, hti]
      cases hs : (elAt L k).isStar with
      | true =>
        rw [show L.getD k .star = elAt L k from rfl, Mt_snoc_star _ _ hs]
        simp only [MT, hs, if_true, Bool.or_eq_true, Bool.and_eq_true]
        rw [h1, h3]; rfl
      | false =>
        rw [show L.getD k .star = elAt L k from rfl, Mt_snoc_no _ _ hs]
        simp only [MT, hs]
        rw [if_neg (by simp), Bool.and_eq_true, h2]

theorem matchF_iff (L : List El) (l : List Nat) : matchF L l = true ↔ Mt L l := by
  have := MT_iff L l L.length (Nat.le_refl _) l.length (Nat.le_refl _)
  rw [List.take_length, List.take_length] at this
  exact this

/-- A pattern that matches nothing. -/
def emptyF (L : List El) : Bool := L.any fun e => !(List.range 128).any fun c => e.has c

/-- A list of characters, each for itself, matches just its own text. -/
theorem Mt_ones (l w : List Nat) : Mt (l.map El.one) w ↔ w = l := by
  induction l generalizing w with
  | nil => exact Iff.rfl
  | cons c l ih =>
    simp only [List.map_cons, Mt]
    constructor
    · rintro ⟨u, v, rfl, h1, h2⟩
      obtain ⟨d, rfl, hd⟩ := (takes_no rfl u).1 h1
      obtain rfl : c = d := by simpa [El.has] using hd
      rw [(ih v).1 h2]; rfl
    · rintro rfl
      exact ⟨[c], l, rfl, (takes_no rfl _).2 ⟨c, rfl, by simp [El.has]⟩, (ih l).2 rfl⟩

theorem has_some_of_takes {e : El} {u : List Nat} (he : e.ok) (h : e.takes u) (hs : e.isStar = false) : ((List.range 128).any fun c => e.has c) = true := by
  obtain ⟨c, rfl, hc⟩ := (takes_no hs u).1 h
  rw [List.any_eq_true]
  exact ⟨c, by simpa using named_lt (El.named_of_has he hc), hc⟩

theorem emptyF_of_match {L : List El} (hL : ∀ e ∈ L, e.ok) {w : List Nat} (h : Mt L w) : emptyF L = false := by
  induction L generalizing w with
  | nil => rfl
  | cons e L ih =>
    obtain ⟨u, v, rfl, h1, h2⟩ := h
    have h3 := ih (fun e he => hL e (by simp [he])) h2
    simp only [emptyF, List.any_cons, Bool.or_eq_false_iff, Bool.not_eq_false'] at h3 ⊢
    refine ⟨?_, h3⟩
    cases hs : e.isStar with
    | true =>
      cases e with
      | star => decide +kernel
      | _ => cases hs
    | false => exact has_some_of_takes (hL e (by simp)) h1 hs

end Go.Proofs.YtgnmanmlnbidfaaDoor
