/- Wildmat: the shortest and smallest common string of two patterns, as plain mathematics. -/
import Derived.Test.YtgnmanmlnbidfaaDoorRun
namespace Go.Proofs.YtgnmanmlnbidfaaDoor

def lexLt : List Nat → List Nat → Bool
  | [], [] => false
  | [], _ :: _ => true
  | _ :: _, [] => false
  | a :: x, b :: y => decide (a < b) || (a == b && lexLt x y)

theorem lexLt_irrefl (a : List Nat) : lexLt a a = false := by
  induction a with
  | nil => rfl
  | cons x a ih => simp [lexLt, ih]

theorem lexLt_trans {a b c : List Nat} (h1 : lexLt a b = true) (h2 : lexLt b c = true) : lexLt a c = true := by
  induction a generalizing b c with
  | nil =>
    cases b with
    | nil => cases h1
    | cons y b =>
      cases c with
      | nil => cases h2
      | cons z c => rfl
  | cons x a ih =>
    cases b with
    | nil => cases h1
    | cons y b =>
      cases c with
      | nil => cases h2
      | cons z c =>
        simp only [lexLt, Bool.or_eq_true, decide_eq_true_eq, Bool.and_eq_true, beq_iff_eq] at h1 h2 ⊢
        rcases h1 with h1 | ⟨rfl, h1⟩
        · rcases h2 with h2 | ⟨rfl, _⟩
          · left; omega
          · left; exact h1
        · rcases h2 with h2 | ⟨rfl, h2⟩
          · left; exact h2
          · right; exact ⟨rfl, ih h1 h2⟩

theorem lexLt_total (a b : List Nat) : lexLt a b = true ∨ a = b ∨ lexLt b a = true := by
  induction a generalizing b with
  | nil =>
    cases b with
    | nil => exact .inr (.inl rfl)
    | cons y b => exact .inl rfl
  | cons x a ih =>
    cases b with
    | nil => exact .inr (.inr rfl)
    | cons y b =>
      simp only [lexLt, Bool.or_eq_true, decide_eq_true_eq, Bool.and_eq_true, beq_iff_eq]
      rcases Nat.lt_trichotomy x y with h | rfl | h
      · exact .inl (.inl h)
      · rcases ih b with h | rfl | h
        · exact .inl (.inr ⟨rfl, h⟩)
        · exact .inr (.inl rfl)
        · exact .inr (.inr (.inr ⟨rfl, h⟩))
      · exact .inr (.inr (.inl h))

theorem lexLt_asymm {a b : List Nat} (h : lexLt a b = true) : lexLt b a = false := by
  cases h' : lexLt b a with
  | false => rfl
  | true =>
    have := lexLt_trans h h'
    rw [lexLt_irrefl] at this; cases this

/-- Shorter, or as long and not greater. -/
def slLe (a b : List Nat) : Bool := decide (a.length < b.length) || (decide (a.length = b.length) && !lexLt b a)

theorem slLe_refl (a : List Nat) : slLe a a = true := by simp [slLe, lexLt_irrefl]

theorem slLe_iff {a b : List Nat} : slLe a b = true ↔ a.length < b.length ∨ (a.length = b.length ∧ lexLt b a = false) := by
  simp only [slLe, Bool.or_eq_true, decide_eq_true_eq, Bool.and_eq_true, Bool.not_eq_true']

theorem slLe_antisymm {a b : List Nat} (h1 : slLe a b = true) (h2 : slLe b a = true) : a = b := by
  rw [slLe_iff] at h1 h2
  rcases lexLt_total a b with h | h | h
  · rcases h1 with h1 | ⟨h1, h3⟩
    · rcases h2 with h2 | ⟨h2, _⟩ <;> omega
    · rcases h2 with h2 | ⟨_, h4⟩
      · omega
      · rw [h] at h4; cases h4
  · exact h
  · rcases h1 with h1 | ⟨h1, h3⟩
    · rcases h2 with h2 | ⟨h2, _⟩ <;> omega
    · rw [h] at h3; cases h3

theorem slLe_trans {a b c : List Nat} (h1 : slLe a b = true) (h2 : slLe b c = true) : slLe a c = true := by
  rw [slLe_iff] at h1 h2 ⊢
  rcases h1 with h1 | ⟨h1, h3⟩
  · rcases h2 with h2 | ⟨h2, _⟩ <;> (left; omega)
  · rcases h2 with h2 | ⟨h2, h4⟩
    · left; omega
    · right
      refine ⟨by omega, ?_⟩
      cases h5 : lexLt c a with
      | false => rfl
      | true =>
        rcases lexLt_total a b with h | rfl | h
        · have := lexLt_trans h5 h
          rw [this] at h4; cases h4
        · rw [h5] at h4; cases h4
        · rw [h] at h3; cases h3

theorem slLe_total (a b : List Nat) : slLe a b = true ∨ slLe b a = true := by
  rw [slLe_iff, slLe_iff]
  rcases Nat.lt_trichotomy a.length b.length with h | h | h
  · exact .inl (.inl h)
  · rcases lexLt_total a b with h' | rfl | h'
    · exact .inl (.inr ⟨h, lexLt_asymm h'⟩)
    · exact .inl (.inr ⟨rfl, lexLt_irrefl _⟩)
    · exact .inr (.inr ⟨h.symm, lexLt_asymm h'⟩)
  · exact .inr (.inl h)

theorem slLe_len {a b : List Nat} (h : slLe a b = true) : a.length ≤ b.length := by
  rw [slLe_iff] at h
  rcases h with h | ⟨h, _⟩ <;> omega

/-- The least string of a set, in the order of lengths and then of characters. -/
def IsBest (S : List Nat → Prop) : Option (List Nat) → Prop
  | none => ∀ w, ¬ S w
  | some w => S w ∧ ∀ v, S v → slLe w v = true

theorem IsBest.unique {S : List Nat → Prop} {a b : Option (List Nat)} (ha : IsBest S a) (hb : IsBest S b) : a = b := by
  cases a with
  | none =>
    cases b with
    | none => rfl
    | some y => exact absurd hb.1 (ha y)
  | some x =>
    cases b with
    | none => exact absurd ha.1 (hb x)
    | some y => rw [slLe_antisymm (ha.2 y hb.1) (hb.2 x ha.1)]

theorem IsBest.congr {S T : List Nat → Prop} (h : ∀ w, S w ↔ T w) {o : Option (List Nat)} (ho : IsBest S o) : IsBest T o := by
  cases o with
  | none => exact fun w hw => ho w ((h w).2 hw)
  | some x => exact ⟨(h x).1 ho.1, fun v hv => ho.2 v ((h v).2 hv)⟩

/-- A smaller set whose strings lie below all those of the greater one. -/
theorem IsBest.widen {S T : List Nat → Prop} (h1 : ∀ w, S w → T w) (h2 : ∀ w, T w → ∃ v, S v ∧ slLe v w = true) {o : Option (List Nat)} (ho : IsBest S o) : IsBest T o := by
  cases o with
  | none =>
    intro w hw
    obtain ⟨v, hv, _⟩ := h2 w hw
    exact ho v hv
  | some x =>
    refine ⟨h1 x ho.1, fun w hw => ?_⟩
    obtain ⟨v, hv, h3⟩ := h2 w hw
    exact slLe_trans (ho.2 v hv) h3

/-- The better one of two answers. -/
def best2 (a b : Option (List Nat)) : Option (List Nat) :=
  match b with
  | none => a
  | some y => match a with
    | none => some y
    | some x => if slLe x y = true then some x else some y

theorem best2_ok {S T : List Nat → Prop} {a b : Option (List Nat)} (ha : IsBest S a) (hb : IsBest T b) : IsBest (fun w => S w ∨ T w) (best2 a b) := by
  cases b with
  | none =>
    cases a with
    | none => exact fun w hw => hw.elim (ha w) (hb w)
    | some x => exact ⟨.inl ha.1, fun v hv => hv.elim (ha.2 v) (fun h => absurd h (hb v))⟩
  | some y =>
    cases a with
    | none => exact ⟨.inr hb.1, fun v hv => hv.elim (fun h => absurd h (ha v)) (hb.2 v)⟩
    | some x =>
      simp only [best2]
      split
      · rename_i h
        exact ⟨.inl ha.1, fun v hv => hv.elim (ha.2 v) (fun h' => slLe_trans h (hb.2 v h'))⟩
      · rename_i h
        have h' : slLe y x = true := (slLe_total x y).resolve_left h
        exact ⟨.inr hb.1, fun v hv => hv.elim (fun h2 => slLe_trans h' (ha.2 v h2)) (hb.2 v)⟩

theorem slLe_cons (c : Nat) (a b : List Nat) : slLe (c :: a) (c :: b) = slLe a b := by
  simp [slLe, lexLt]

theorem best_cons {S : List Nat → Prop} {o : Option (List Nat)} (c : Nat) (h : IsBest S o) : IsBest (fun w => ∃ v, w = c :: v ∧ S v) (o.map (c :: ·)) := by
  cases o with
  | none =>
    rintro w ⟨v, _, hv⟩
    exact h v hv
  | some x =>
    refine ⟨⟨x, rfl, h.1⟩, ?_⟩
    rintro w ⟨v, rfl, hv⟩
    rw [slLe_cons]
    exact h.2 v hv

/-- Do both elements go on by a character? -/
def goes (e f : El) (c : Nat) : Bool := !(e.isStar && f.isStar) && namedB c && (e.isStar || e.has c) && (f.isStar || f.has c)

/-- The answer with the characters below a number gone over. -/
def charsF (R : List El → List El → Option (List Nat)) (e f : El) (P Q : List El) (o : Option (List Nat)) : Nat → Option (List Nat)
  | 0 => o
  | c + 1 => if goes e f c = true then best2 (charsF R e f P Q o c) ((R (if e.isStar = true then e :: P else P) (if f.isStar = true then f :: Q else Q)).map (c :: ·)) else charsF R e f P Q o c

/-- The answer at two ends of patterns, out of those at shorter ones. -/
def nodeF (R : List El → List El → Option (List Nat)) : List El → List El → Option (List Nat)
  | [], [] => some []
  | e :: P, [] => if e.isStar = true then best2 none (R P []) else none
  | [], f :: Q => if f.isStar = true then best2 none (R [] Q) else none
  | e :: P, f :: Q =>
    let s1 := if e.isStar = true then best2 none (R P (f :: Q)) else none
    let s2 := if f.isStar = true then best2 s1 (R (e :: P) Q) else s1
    charsF R e f P Q s2 128

def bestG : Nat → List El → List El → Option (List Nat)
  | 0 => fun _ _ => none
  | n + 1 => nodeF (bestG n)

/-- A string that both match. -/
def Both (P Q : List El) (w : List Nat) : Prop := Mt P w ∧ Mt Q w

theorem chars_ok {R : List El → List El → Option (List Nat)} {e f : El} {P Q : List El} (hR : goes e f 0 = goes e f 0 → (e.isStar && f.isStar) = false → IsBest (Both (if e.isStar = true then e :: P else P) (if f.isStar = true then f :: Q else Q)) (R (if e.isStar = true then e :: P else P) (if f.isStar = true then f :: Q else Q)))
    {S : List Nat → Prop} {o : Option (List Nat)} (ho : IsBest S o) : ∀ n, IsBest (fun w => S w ∨ ∃ c v, c < n ∧ goes e f c = true ∧ w = c :: v ∧ Both (if e.isStar = true then e :: P else P) (if f.isStar = true then f :: Q else Q) v) (charsF R e f P Q o n) := by
  intro n
  induction n with
  | zero =>
    refine ho.congr fun w => ⟨.inl, ?_⟩
    rintro (h | ⟨c, v, h, _⟩)
    · exact h
    · omega
  | succ n ih =>
    rw [charsF]
    by_cases hg : goes e f n = true
    · rw [if_pos hg]
      have hne : (e.isStar && f.isStar) = false := by
        simp only [goes, Bool.and_eq_true, Bool.not_eq_true'] at hg
        exact hg.1.1.1
      refine (best2_ok ih (best_cons n (hR rfl hne))).congr fun w => ?_
      constructor
      · rintro ((h | ⟨c, v, h1, h2⟩) | ⟨v, h1, h2⟩)
        · exact .inl h
        · exact .inr ⟨c, v, by omega, h2⟩
        · exact .inr ⟨n, v, by omega, hg, h1, h2⟩
      · rintro (h | ⟨c, v, h1, h2, h3, h4⟩)
        · exact .inl (.inl h)
        · rcases Nat.lt_succ_iff_lt_or_eq.1 h1 with h5 | rfl
          · exact .inl (.inr ⟨c, v, h5, h2, h3, h4⟩)
          · exact .inr ⟨v, h3, h4⟩
    · rw [if_neg hg]
      refine ih.congr fun w => ?_
      constructor
      · rintro (h | ⟨c, v, h1, h2⟩)
        · exact .inl h
        · exact .inr ⟨c, v, by omega, h2⟩
      · rintro (h | ⟨c, v, h1, h2, h3⟩)
        · exact .inl h
        · rcases Nat.lt_succ_iff_lt_or_eq.1 h1 with h5 | rfl
          · exact .inr ⟨c, v, h5, h2, h3⟩
          · exact absurd h2 hg

theorem Mt_star_skip {e : El} {P : List El} (hs : e.isStar = true) {w : List Nat} (h : Mt P w) : Mt (e :: P) w := ⟨[], w, rfl, (takes_star hs _).2 (by simp), h⟩

theorem Mt_star_eat {e : El} {P : List El} (hs : e.isStar = true) {c : Nat} {w : List Nat} (hc : namedB c = true) (h : Mt (e :: P) w) : Mt (e :: P) (c :: w) := by
  obtain ⟨u, v, rfl, h1, h2⟩ := h
  refine ⟨c :: u, v, rfl, (takes_star hs _).2 ?_, h2⟩
  intro d hd
  rcases List.mem_cons.1 hd with rfl | hd
  · exact hc
  · exact (takes_star hs _).1 h1 d hd

theorem Mt_no_eat {e : El} {P : List El} (hs : e.isStar = false) {c : Nat} {w : List Nat} (hc : e.has c = true) (h : Mt P w) : Mt (e :: P) (c :: w) := ⟨[c], w, rfl, (takes_no hs _).2 ⟨c, rfl, hc⟩, h⟩

theorem Mt_nil_cons {e : El} {P : List El} (h : Mt (e :: P) []) : e.isStar = true ∧ Mt P [] := by
  obtain ⟨u, v, hw, h1, h2⟩ := h
  obtain ⟨rfl, rfl⟩ := List.append_eq_nil_iff.1 hw.symm
  cases hs : e.isStar with
  | true => exact ⟨rfl, h2⟩
  | false =>
    obtain ⟨c, hc, _⟩ := (takes_no hs _).1 h1
    cases hc

theorem Mt_cons_cons {e : El} {P : List El} {c : Nat} {w : List Nat} (h : Mt (e :: P) (c :: w)) :
    (e.isStar = true ∧ (Mt P (c :: w) ∨ (namedB c = true ∧ Mt (e :: P) w))) ∨ (e.isStar = false ∧ e.has c = true ∧ Mt P w) := by
  obtain ⟨u, v, hw, h1, h2⟩ := h
  cases hs : e.isStar with
  | true =>
    left
    refine ⟨rfl, ?_⟩
    cases u with
    | nil =>
      left
      rw [List.nil_append] at hw
      rw [hw]; exact h2
    | cons d u =>
      right
      simp only [List.cons_append, List.cons.injEq] at hw
      obtain ⟨rfl, rfl⟩ := hw
      rw [takes_star hs] at h1
      exact ⟨h1 c (by simp), u, v, rfl, (takes_star hs _).2 (fun x hx => h1 x (by simp [hx])), h2⟩
  | false =>
    right
    obtain ⟨d, rfl, hd⟩ := (takes_no hs _).1 h1
    simp only [List.cons_append, List.nil_append, List.cons.injEq] at hw
    obtain ⟨rfl, rfl⟩ := hw
    exact ⟨rfl, hd, h2⟩

/-- What the node's alternatives make is below whatever both match. -/
theorem both_below {e f : El} {P Q : List El} (hL : ∀ x ∈ e :: P, x.ok) (_hQ : ∀ x ∈ f :: Q, x.ok) : ∀ (n : Nat) (w : List Nat), w.length = n → Both (e :: P) (f :: Q) w →
    ∃ v, (((e.isStar = true ∧ Both P (f :: Q) v) ∨ (f.isStar = true ∧ Both (e :: P) Q v)) ∨ ∃ c v', c < 128 ∧ goes e f c = true ∧ v = c :: v' ∧ Both (if e.isStar = true then e :: P else P) (if f.isStar = true then f :: Q else Q) v') ∧ slLe v w = true := by
  intro n
  induction n with
  | zero =>
    intro w hw h
    obtain rfl := List.eq_nil_of_length_eq_zero hw
    obtain ⟨h1, h2⟩ := Mt_nil_cons h.1
    exact ⟨[], .inl (.inl ⟨h1, h2, h.2⟩), slLe_refl _⟩
  | succ n ih =>
    intro w hw h
    cases w with
    | nil => simp at hw
    | cons c w =>
      obtain ⟨hp, hq⟩ := h
      rcases Mt_cons_cons hp with ⟨hes, h1⟩ | ⟨hes, hec, h1⟩
      · rcases h1 with h1 | ⟨hc, h1⟩
        · exact ⟨c :: w, .inl (.inl ⟨hes, h1, hq⟩), slLe_refl _⟩
        · rcases Mt_cons_cons hq with ⟨hfs, h2⟩ | ⟨hfs, hfc, h2⟩
          · rcases h2 with h2 | ⟨_, h2⟩
            · exact ⟨c :: w, .inl (.inr ⟨hfs, hp, h2⟩), slLe_refl _⟩
            · obtain ⟨v, hv, hle⟩ := ih w (by simpa using hw) ⟨h1, h2⟩
              refine ⟨v, hv, slLe_trans hle ?_⟩
              rw [slLe_iff]; left; simp
          · refine ⟨c :: w, .inr ⟨c, w, named_lt hc, ?_, rfl, ?_⟩, slLe_refl _⟩
            · simp [goes, hes, hfs, hc, hfc]
            · rw [if_pos hes, if_neg (by rw [hfs]; simp)]; exact ⟨h1, h2⟩
      · rcases Mt_cons_cons hq with ⟨hfs, h2⟩ | ⟨hfs, hfc, h2⟩
        · rcases h2 with h2 | ⟨hc, h2⟩
          · exact ⟨c :: w, .inl (.inr ⟨hfs, hp, h2⟩), slLe_refl _⟩
          · refine ⟨c :: w, .inr ⟨c, w, named_lt hc, ?_, rfl, ?_⟩, slLe_refl _⟩
            · simp [goes, hes, hfs, hc, hec]
            · rw [if_neg (by rw [hes]; simp), if_pos hfs]; exact ⟨h1, h2⟩
        · have hc := El.named_of_has (hL e (by simp)) hec
          refine ⟨c :: w, .inr ⟨c, w, named_lt hc, ?_, rfl, ?_⟩, slLe_refl _⟩
          · simp [goes, hes, hfs, hc, hec, hfc]
          · rw [if_neg (by rw [hes]; simp), if_neg (by rw [hfs]; simp)]; exact ⟨h1, h2⟩

theorem both_of {e f : El} {P Q : List El} (v : List Nat) (h : ((e.isStar = true ∧ Both P (f :: Q) v) ∨ (f.isStar = true ∧ Both (e :: P) Q v)) ∨ ∃ c v', c < 128 ∧ goes e f c = true ∧ v = c :: v' ∧ Both (if e.isStar = true then e :: P else P) (if f.isStar = true then f :: Q else Q) v') : Both (e :: P) (f :: Q) v := by
  rcases h with (⟨hs, h1, h2⟩ | ⟨hs, h1, h2⟩) | ⟨c, v', _, hg, rfl, h1, h2⟩
  · exact ⟨Mt_star_skip hs h1, h2⟩
  · exact ⟨h1, Mt_star_skip hs h2⟩
  · simp only [goes, Bool.and_eq_true, Bool.or_eq_true, Bool.not_eq_true'] at hg
    obtain ⟨⟨⟨_, hc⟩, he⟩, hf⟩ := hg
    constructor
    · cases hs : e.isStar with
      | true => rw [if_pos hs] at h1; exact Mt_star_eat hs hc h1
      | false =>
        rw [if_neg (by rw [hs]; simp)] at h1
        exact Mt_no_eat hs (he.resolve_left (by rw [hs]; simp)) h1
    · cases hs : f.isStar with
      | true => rw [if_pos hs] at h2; exact Mt_star_eat hs hc h2
      | false =>
        rw [if_neg (by rw [hs]; simp)] at h2
        exact Mt_no_eat hs (hf.resolve_left (by rw [hs]; simp)) h2

theorem best_none_ok {S : List Nat → Prop} {o : Option (List Nat)} (h : IsBest S o) : IsBest S (best2 none o) := by
  cases o <;> exact h

theorem no_ok : IsBest (fun _ => False) none := fun _ h => h

theorem node_ok {R : List El → List El → Option (List Nat)} {P Q : List El} (hP : ∀ x ∈ P, x.ok) (hQ : ∀ x ∈ Q, x.ok)
    (hR : ∀ A B : List El, (∀ x ∈ A, x.ok) → (∀ x ∈ B, x.ok) → A.length + B.length < P.length + Q.length → IsBest (Both A B) (R A B)) : IsBest (Both P Q) (nodeF R P Q) := by
  cases P with
  | nil =>
    cases Q with
    | nil =>
      refine ⟨⟨rfl, rfl⟩, fun v hv => ?_⟩
      rw [hv.1]; exact slLe_refl _
    | cons f Q =>
      simp only [nodeF]
      cases hs : f.isStar with
      | true =>
        rw [if_pos rfl]
        refine (best_none_ok (hR [] Q hP (fun x hx => hQ x (by simp [hx])) (by simp))).congr fun w => ?_
        constructor
        · rintro ⟨h1, h2⟩; exact ⟨h1, Mt_star_skip hs h2⟩
        · rintro ⟨h1, h2⟩
          cases h1
          exact ⟨rfl, (Mt_nil_cons h2).2⟩
      | false =>
        rw [if_neg (by simp)]
        rintro w ⟨h1, h2⟩
        cases h1
        have := (Mt_nil_cons h2).1
        rw [hs] at this; cases this
  | cons e P =>
    cases Q with
    | nil =>
      simp only [nodeF]
      cases hs : e.isStar with
      | true =>
        rw [if_pos rfl]
        refine (best_none_ok (hR P [] (fun x hx => hP x (by simp [hx])) hQ (by simp))).congr fun w => ?_
        constructor
        · rintro ⟨h1, h2⟩; exact ⟨Mt_star_skip hs h1, h2⟩
        · rintro ⟨h1, h2⟩
          cases h2
          exact ⟨(Mt_nil_cons h1).2, rfl⟩
      | false =>
        rw [if_neg (by simp)]
        rintro w ⟨h1, h2⟩
        cases h2
        have := (Mt_nil_cons h1).1
        rw [hs] at this; cases this
    | cons f Q =>
      have h1 : IsBest (fun w => e.isStar = true ∧ Both P (f :: Q) w) (if e.isStar = true then best2 none (R P (f :: Q)) else none) := by
        cases hs : e.isStar with
        | true =>
          rw [if_pos rfl]
          exact (best_none_ok (hR P (f :: Q) (fun x hx => hP x (by simp [hx])) hQ (by simp))).congr fun w => by simp
        | false =>
          rw [if_neg (by simp)]
          exact no_ok.congr fun w => by simp
      have h2 : IsBest (fun w => (e.isStar = true ∧ Both P (f :: Q) w) ∨ (f.isStar = true ∧ Both (e :: P) Q w)) (if f.isStar = true then best2 (if e.isStar = true then best2 none (R P (f :: Q)) else none) (R (e :: P) Q) else (if e.isStar = true then best2 none (R P (f :: Q)) else none)) := by
        cases hs : f.isStar with
        | true =>
          rw [if_pos rfl]
          exact (best2_ok h1 (hR (e :: P) Q hP (fun x hx => hQ x (by simp [hx])) (by simp))).congr fun w => by simp
        | false =>
          rw [if_neg (by simp)]
          exact h1.congr fun w => by simp
      refine (chars_ok (e := e) (f := f) (P := P) (Q := Q) (R := R) ?_ h2 128).widen (fun w hw => both_of w hw) (fun w hw => both_below hP hQ w.length w rfl hw)
      intro _ hne
      cases hes : e.isStar with
      | true =>
        rw [hes] at hne
        have hfs : f.isStar = false := by simpa using hne
        rw [if_pos rfl, hfs, if_neg (by simp)]
        exact hR _ _ hP (fun x hx => hQ x (by simp [hx])) (by simp)
      | false =>
        rw [if_neg (by simp)]
        cases hfs : f.isStar with
        | true =>
          rw [if_pos rfl]
          exact hR _ _ (fun x hx => hP x (by simp [hx])) hQ (by simp)
        | false =>
          rw [if_neg (by simp)]
          exact hR _ _ (fun x hx => hP x (by simp [hx])) (fun x hx => hQ x (by simp [hx])) (by simp; omega)

theorem bestG_ok : ∀ (n : Nat) (P Q : List El), (∀ x ∈ P, x.ok) → (∀ x ∈ Q, x.ok) → P.length + Q.length < n → IsBest (Both P Q) (bestG n P Q) := by
  intro n
  induction n with
  | zero => intro P Q _ _ h; omega
  | succ n ih => intro P Q hP hQ h; exact node_ok hP hQ (fun A B hA hB hlt => ih A B hA hB (by omega))

/-- The shortest and smallest string that both match. -/
def bestF (P Q : List El) : Option (List Nat) := bestG (P.length + Q.length + 1) P Q

theorem bestF_ok {P Q : List El} (hP : ∀ x ∈ P, x.ok) (hQ : ∀ x ∈ Q, x.ok) : IsBest (Both P Q) (bestF P Q) := bestG_ok _ P Q hP hQ (by omega)

theorem bestF_node {P Q : List El} (hP : ∀ x ∈ P, x.ok) (hQ : ∀ x ∈ Q, x.ok) : bestF P Q = nodeF bestF P Q :=
  (bestF_ok hP hQ).unique (node_ok hP hQ (fun _ _ hA hB _ => bestF_ok hA hB))

theorem bestF_comm {P Q : List El} (hP : ∀ x ∈ P, x.ok) (hQ : ∀ x ∈ Q, x.ok) : bestF Q P = bestF P Q :=
  ((bestF_ok hQ hP).congr (fun w => by unfold Both; exact And.comm)).unique (bestF_ok hP hQ)

end Go.Proofs.YtgnmanmlnbidfaaDoor
