/- Wildmat: maps from pairs of positions to strings, as functions. -/
import Derived.Test.YtgnmanmlnbidfaaDoorMat
import Derived.Maps.Own
import Derived.Maps.OwnSet
import Derived.Maps.Views
import Derived.Maps.Range
import Derived.Maps.RangeWalk
import Derived.Maps.Ext
import Derived.DeepKeys4
import Derived.Maps.Keyed
import Derived.Maps.StringElems
namespace Go.Proofs.YtgnmanmlnbidfaaDoor
open Go.RowKit Go.Maps

theorem laidOut : laidOutB Tryd.prog = true := by kernel_rfl
theorem law86 : Keyed Tryd.prog 86 := Keyed.of_law (deep_law_laid laidOut (m := 2) (by omega) (of_decide_eq_true (by kernel_rfl)) (by kernel_rfl) (by rw [Tryd.underlying86]))
theorem zero9 (w : World) : (zeroValue 9).run Tryd.prog w = .ok (.string ⟨#[]⟩) w := by kernel_rfl

def pairV (i k : Nat) : Value := .agg #[.int .i64 (i : Nat), .int .i64 (k : Nat)]

theorem lits3 (d : Nat) (n : Nat) (hn : n < 1000) : Tryd.prog.keyLits (d + 1) 3 [.int .i64 (n : Nat)] = some [.int .i64 (n : Nat)] := by
  have hw : (Lit.int .i64 (n : Nat)).wf = true := by
    have h1 : IntKind.i64.min = -9223372036854775808 := rfl
    have h2 : IntKind.i64.max = 9223372036854775807 := rfl
    simp only [Lit.wf, h1, h2, Bool.and_eq_true, decide_eq_true_eq]
    omega
  rw [Program.keyLits.eq_def]
  simp only [Tryd.underlying3]
  rw [if_pos ⟨trivial, hw⟩]

theorem key_some (i k : Nat) (hi : i < 1000) (hk : k < 1000) : ∃ l, keyOf Tryd.prog 86 (pairV i k) = some l := by
  have hT : Tryd.prog.keyType 86 = true := by kernel_rfl
  have hF : (pairV i k).formed Tryd.prog 86 = true := by
    unfold pairV Value.formed
    rw [Tryd.underlying86]
    kernel_rfl
  have hts : Tryd.prog.types.size = 142 := by kernel_rfl
  have hL : Tryd.prog.keyLits (142 + 1) 86 [.int .i64 (i : Nat), .int .i64 (k : Nat)] = some [.int .i64 (i : Nat), .int .i64 (k : Nat)] := by
    rw [Program.keyLits.eq_def]
    simp only [Tryd.underlying86]
    have hc3 : Tryd.prog.cellsOf 3 = 1 := by kernel_rfl
    rw [if_pos ⟨by kernel_rfl, by kernel_rfl⟩]
    simp [hc3, lits3 141 i hi, lits3 141 k hk]
  unfold keyOf
  rw [Tryd.underlying86]
  simp only [hT, hF, Bool.and_self, if_true]
  rw [hts, show (pairV i k).cells.toList = [.int .i64 (i : Nat), .int .i64 (k : Nat)] from rfl, hL]
  exact ⟨_, rfl⟩

/-- A pair as a key. -/
instance : Nonempty Lit := ⟨.nil⟩
noncomputable def litP (i k : Nat) : Lit := Classical.epsilon fun l => keyOf Tryd.prog 86 (pairV i k) = some l

theorem lit_ok {i k : Nat} (hi : i < 1000) (hk : k < 1000) : keyOf Tryd.prog 86 (pairV i k) = some (litP i k) := by
  exact Classical.epsilon_spec (key_some i k hi hk)

theorem pairV_inj {i k i' k' : Nat} (h : pairV i k = pairV i' k') : i = i' ∧ k = k' := by
  simp only [pairV, Value.agg.injEq, Array.mk.injEq, List.cons.injEq, Value.int.injEq, true_and, and_true] at h
  omega

theorem lit_inj {i k i' k' : Nat} (hi : i < 1000) (hk : k < 1000) (hi' : i' < 1000) (hk' : k' < 1000) (h : litP i k = litP i' k') : i = i' ∧ k = k' :=
  pairV_inj (law86.inj (lit_ok hi hk) (by rw [h]; exact lit_ok hi' hk'))

theorem lit_key {i k : Nat} (hi : i < 1000) (hk : k < 1000) : WideAt.IsKeyLit (litP i k) := law86.key (lit_ok hi hk)

theorem lit_same {a c i k : Nat} (ha : a < 1000) (hc : c < 1000) (hi : i < 1000) (hk : k < 1000) : (litP a c).sameKey (litP i k) = decide (a = i ∧ c = k) := by
  by_cases h : a = i ∧ c = k
  · obtain ⟨rfl, rfl⟩ := h
    rw [WideAt.sameKey_self (lit_key ha hc)]
    simp
  · rw [sameKey_ne (fun e => h (lit_inj ha hc hi hk e)), decide_eq_false h]

abbrev PF := Nat → Nat → Option ByteArray

/-- A map as read, as a function. -/
structure MapIs (D : DataW Unit) (F : PF) : Prop where
  dom : ∀ i k s, F i k = some s → i < 100 ∧ k < 100 ∧ s.size ≤ 100000
  has : ∀ i k, i < 1000 → k < 1000 → Maps.has D (litP i k) = (F i k).isSome
  val : ∀ i k s, F i k = some s → ∀ z, D.atKey (litP i k) z = .lit (.string s.data.toList)
  only : ∀ kl, Maps.has D kl = true → ∃ i k, F i k ≠ none ∧ kl = litP i k

noncomputable abbrev RS : Value → Option (DataW Unit × List MemPlace) := plainElem (H := Unit) Tryd.prog 9

def MapF (w : World) (b : Nat) (F : PF) : Prop := ∃ n D, w.ownsMap Tryd.prog 86 RS b n D ∧ MapIs D F

theorem nodup_sub {α : Type} : ∀ (l m : List α), l.Pairwise (· ≠ ·) → (∀ x ∈ l, x ∈ m) → l.length ≤ m.length := by
  intro l
  induction l with
  | nil => intro m _ _; simp
  | cons a l ih =>
    intro m hp hs
    obtain ⟨h1, h2⟩ := List.pairwise_cons.1 hp
    obtain ⟨m1, m2, rfl⟩ := List.append_of_mem (hs a (by simp))
    have := ih (m1 ++ m2) h2 (fun x hx => by
      have hx' := hs x (by simp [hx])
      have hne := h1 x hx
      rcases List.mem_append.1 hx' with h | h
      · exact List.mem_append.2 (.inl h)
      · rcases List.mem_cons.1 h with h | h
        · exact absurd h.symm hne
        · exact List.mem_append.2 (.inr h))
    simp at this ⊢
    omega

theorem has_of_mem {es : List (Lit × DataW Unit)} {p : Lit × DataW Unit} (hp : p ∈ es) (hk : WideAt.IsKeyLit p.1) : Maps.has (.map es) p.1 = true := by
  rw [Maps.has_eq, List.any_eq_true]
  exact ⟨p, hp, WideAt.sameKey_self hk⟩

theorem MapIs.size_le {w : World} {b n : Nat} {D : DataW Unit} {F : PF} (ho : w.ownsMap Tryd.prog 86 RS b n D) (h : MapIs D F) : Maps.size D ≤ 10000 := by
  obtain ⟨es, rfl, hp, hk⟩ := ho.entries law86
  have hl : ((List.range 100).flatMap fun i => (List.range 100).map fun k => litP i k).length = 10000 := by
    simp only [List.length_flatMap, List.length_map, List.length_range]
    decide +kernel
  have := nodup_sub (es.map (·.1)) ((List.range 100).flatMap fun i => (List.range 100).map fun k => litP i k) (List.pairwise_map.2 hp) (fun x hx => by
    obtain ⟨p, hp, rfl⟩ := List.mem_map.1 hx
    obtain ⟨i, k, hF, he⟩ := h.only p.1 (has_of_mem hp (hk p hp))
    obtain ⟨s, hs⟩ : ∃ s, F i k = some s := by
      cases hf : F i k with
      | none => exact absurd hf hF
      | some s => exact ⟨s, rfl⟩
    obtain ⟨h1, h2, _⟩ := h.dom i k s hs
    rw [he]
    simp only [List.mem_flatMap, List.mem_range, List.mem_map]
    exact ⟨i, h1, k, h2, rfl⟩)
  rw [hl] at this
  simpa [Maps.size] using this

theorem own_tight {w : World} {b n : Nat} {D : DataW Unit} (ho : w.ownsMap Tryd.prog 86 RS b n D) : w.ownsMap Tryd.prog 86 RS b (Maps.size D) D := by
  obtain ⟨es, clock, hb, F, hs, rfl⟩ := ho
  exact ⟨es, clock, hb, F, by simp [Maps.size, length_sorted], rfl⟩

theorem MapF.made (w : World) : MapF (w.alloc (.map #[] 0)) w.heap.size (fun _ _ => none) :=
  ⟨0, .map [], World.ownsMap_made _ _ _ _, ⟨fun _ _ _ h => (by cases h), fun _ _ _ _ => rfl, fun _ _ _ h => (by cases h), fun kl h => (by cases h)⟩⟩

theorem MapF.kept {w w' : World} {b : Nat} {F : PF} {row : Option Nat} (h : MapF w b F) (hg : w.grownBy w' row) (hne : some b ≠ row) : MapF w' b F := by
  obtain ⟨n, D, ho, hi⟩ := h
  exact ⟨n, D, ho.kept hg hne, hi⟩

theorem MapF.alloc {w : World} {b : Nat} {F : PF} (h : MapF w b F) (o : Obj) : MapF (w.alloc o) b F := h.kept (World.grownBy_alloc w o none) (by simp)
theorem MapF.drew {w : World} {b : Nat} {F : PF} (h : MapF w b F) : MapF w.drew b F := h
theorem MapF.drewN {w : World} {b : Nat} {F : PF} (h : MapF w b F) (n : Nat) : MapF (w.drewN n) b F := h.kept (row := none) ⟨rfl, rfl, rfl, Nat.le_refl _, fun _ _ _ => rfl⟩ (by simp)
theorem MapF.lt {w : World} {b : Nat} {F : PF} (h : MapF w b F) : b < w.heap.size := by obtain ⟨n, D, ho, hi⟩ := h; exact ho.lt
theorem MapF.below {w w' : World} {b B : Nat} {F : PF} (h : MapF w b F) (hb : Below B w w') (hlt : b < B) : MapF w' b F := by
  obtain ⟨n, D, ⟨es, clock, h1, h2, h3, h4⟩, hi⟩ := h
  exact ⟨n, D, ⟨es, clock, (hb.block b hlt).trans h1, h2, h3, h4⟩, hi⟩

theorem data_eq {a b : ByteArray} (h : a.data.toList = b.data.toList) : a = b := bytes_eq h

theorem MapF.look {w : World} {b : Nat} {F : PF} (h : MapF w b F) {i k : Nat} (hi : i < 1000) (hk : k < 1000) :
    (Instr.lookup 82 (.map (some b)) (pairV i k) true).run Tryd.prog w = .ok (.tuple #[.string ((F i k).getD ByteArray.empty), .bool (F i k).isSome]) w := by
  obtain ⟨n, D, ho, hD⟩ := h
  obtain ⟨v, ps, hrun, hv⟩ := ho.look_ok law86 Tryd.underlying82 (zero9 w) (plainElem_string (H := Unit) Tryd.underlying9 (s := ⟨#[]⟩) (by decide)) (lit_ok hi hk)
  obtain ⟨s, rfl, hs, _⟩ := plainElem_string_inv Tryd.underlying9 hv
  simp only [Prod.mk.injEq] at hs
  have hs2 : s = (F i k).getD ByteArray.empty := by
    cases hF : F i k with
    | none =>
      have hh := hD.has i k hi hk
      rw [hF] at hh
      rw [atKey_of_not_has hh] at hs
      have := hs.1
      simp only [DataW.lit.injEq, Lit.string.injEq] at this
      rw [show s = ByteArray.empty from data_eq this.symm]
      rfl
    | some s' =>
      rw [hD.val i k s' hF] at hs
      have := hs.1
      simp only [DataW.lit.injEq, Lit.string.injEq] at this
      rw [data_eq this.symm]
      rfl
  rw [hrun, hD.has i k hi hk, hs2]

/-- A function with one value more. -/
def putF (F : PF) (i k : Nat) (s : ByteArray) : PF := fun a c => if a = i ∧ c = k then some s else F a c

theorem MapIs.put {D : DataW Unit} {F : PF} (h : MapIs D F) (hm : IsMap D) {i k : Nat} {s : ByteArray} (hi : i < 100) (hk : k < 100) (hs : s.size ≤ 100000) : MapIs (D.put (litP i k) (.lit (.string s.data.toList))) (putF F i k s) := by
  have hkl := lit_key (i := i) (k := k) (by omega) (by omega)
  refine ⟨?_, ?_, ?_, ?_⟩
  · intro a c t ht
    unfold putF at ht
    split at ht
    · rename_i hac
      cases ht
      obtain ⟨rfl, rfl⟩ := hac
      exact ⟨hi, hk, hs⟩
    · exact h.dom a c t ht
  · intro a c ha hc
    unfold putF
    by_cases hac : a = i ∧ c = k
    · rw [if_pos hac]
      obtain ⟨rfl, rfl⟩ := hac
      rw [has_put_same hm hkl]; rfl
    · rw [if_neg hac, has_put_other (fun e => hac (lit_inj ha hc (by omega) (by omega) e))]
      exact h.has a c ha hc
  · intro a c t ht z
    unfold putF at ht
    split at ht
    · rename_i hac
      cases ht
      obtain ⟨rfl, rfl⟩ := hac
      rw [atKey_put_same hm hkl]
    · rename_i hac
      obtain ⟨h1, h2, _⟩ := h.dom a c t ht
      rw [atKey_put_other (fun e => hac (lit_inj (by omega) (by omega) (by omega) (by omega) e))]
      exact h.val a c t ht z
  · intro kl hh
    by_cases he : kl = litP i k
    · exact ⟨i, k, by simp [putF], he⟩
    · rw [has_put_other he] at hh
      obtain ⟨a, c, h1, h2⟩ := h.only kl hh
      refine ⟨a, c, ?_, h2⟩
      unfold putF
      split
      · simp
      · exact h1

theorem MapF.upd {w : World} {b : Nat} {F : PF} (h : MapF w b F) {i k : Nat} {s : ByteArray} (hi : i < 100) (hk : k < 100) (hs : s.size ≤ 100000) :
    ∃ w', (Instr.mapUpdate 82 (.map (some b)) (pairV i k) (.string s)).run Tryd.prog w = .ok () w' ∧ MapF w' b (putF F i k s) ∧ w.grownBy w' (some b) := by
  obtain ⟨n, D, ho, hD⟩ := h
  have h1 := hD.size_le ho
  obtain ⟨w', hr, ho', hg⟩ := (own_tight ho).update law86 Tryd.underlying82 (by unfold maxLen; omega) (lit_ok (i := i) (k := k) (by omega) (by omega)) (plainElem_string (H := Unit) Tryd.underlying9 (s := s) (by unfold maxLen; omega))
  exact ⟨w', hr, ⟨_, _, ho', hD.put ho.isMap hi hk hs⟩, hg⟩

theorem MapF.len {w : World} {b : Nat} {F : PF} (h : MapF w b F) : ∃ n : Nat, n ≤ 10000 ∧ (∀ ty, (Builtin.len_ #[82] ty #[.map (some b)]).run Tryd.prog w = .ok (.int .i64 n) w) ∧ (n = 0 ↔ ∀ i k, F i k = none) := by
  obtain ⟨n, D, ho, hD⟩ := h
  refine ⟨Maps.size D, hD.size_le ho, fun ty => ho.len Tryd.underlying82 ty, ?_⟩
  obtain ⟨es, rfl, _, hk⟩ := ho.entries law86
  constructor
  · intro h0 i k
    cases hF : F i k with
    | none => rfl
    | some s =>
      obtain ⟨h1, h2, _⟩ := hD.dom i k s hF
      have hh := hD.has i k (by omega) (by omega)
      have : es = [] := List.eq_nil_of_length_eq_zero h0
      rw [hF, this] at hh
      cases hh
  · intro hn
    cases es with
    | nil => rfl
    | cons p es =>
      obtain ⟨i, k, h1, _⟩ := hD.only p.1 (has_of_mem (by simp) (hk p (by simp)))
      exact absurd (hn i k) h1

/-- A range over such a map under way. -/
def RangeF (w : World) (b r : Nat) (F : PF) (left : Nat → Nat → Bool) (cnt : Nat) : Prop :=
  ∃ n D lf, w.ranges Tryd.prog 86 RS b r n D lf cnt ∧ MapIs D F ∧ ∀ i k, i < 1000 → k < 1000 → lf (litP i k) = left i k

theorem RangeF.map {w : World} {b r : Nat} {F : PF} {left : Nat → Nat → Bool} {cnt : Nat} (h : RangeF w b r F left cnt) : MapF w b F := by
  obtain ⟨n, D, lf, h1, h2, _⟩ := h
  exact ⟨n, D, h1.owns, h2⟩

theorem RangeF.left_eq {w : World} {b r : Nat} {F : PF} {left : Nat → Nat → Bool} {cnt : Nat} (h : RangeF w b r F left cnt) : w.rangeLeft b r = cnt := by
  obtain ⟨n, D, lf, h1, _⟩ := h
  exact h1.left_eq

theorem RangeF.lt {w : World} {b r : Nat} {F : PF} {left : Nat → Nat → Bool} {cnt : Nat} (h : RangeF w b r F left cnt) : r < w.heap.size := by
  obtain ⟨n, D, lf, h1, _⟩ := h
  exact h1.lt

theorem RangeF.kept {w w' : World} {b r : Nat} {F : PF} {left : Nat → Nat → Bool} {cnt : Nat} {row : Option Nat} (h : RangeF w b r F left cnt) (hg : w.grownBy w' row) (hb : some b ≠ row) (hr : some r ≠ row) : RangeF w' b r F left cnt := by
  obtain ⟨n, D, lf, h1, h2⟩ := h
  exact ⟨n, D, lf, h1.kept hg hb hr, h2⟩

theorem MapF.range {w : World} {b : Nat} {F : PF} (h : MapF w b F) :
    ∃ w', (Instr.range 82 (.map (some b))).run Tryd.prog w = .ok (.pointer (some ⟨w.heap.size, 0, none⟩)) w' ∧ (∃ cnt, RangeF w' b w.heap.size F (fun i k => (F i k).isSome) cnt) ∧ w.grownBy w' none ∧ w'.heap.size = w.heap.size + 1 := by
  obtain ⟨n, D, ho, hD⟩ := h
  obtain ⟨w', hr, hrg, hg, hs⟩ := ho.range law86 Tryd.underlying82
  exact ⟨w', hr, ⟨_, n, D, _, hrg, hD, fun i k hi hk => hD.has i k hi hk⟩, hg, hs⟩

theorem RangeF.next {w : World} {b r : Nat} {F : PF} {left : Nat → Nat → Bool} {cnt : Nat} (h : RangeF w b r F left cnt) (ty : TypeId) :
    (cnt = 0 ∧ (∀ i k, i < 1000 → k < 1000 → left i k = false) ∧ (Instr.next (.pointer (some ⟨r, 0, none⟩)) false ty).run Tryd.prog w = .ok (.tuple #[.bool false]) w) ∨
    ∃ i k s w' cnt', i < 100 ∧ k < 100 ∧ left i k = true ∧ F i k = some s ∧ (Instr.next (.pointer (some ⟨r, 0, none⟩)) false ty).run Tryd.prog w = .ok (.tuple #[.bool true, pairV i k, .string s]) w' ∧
      RangeF w' b r F (fun a c => left a c && !decide (a = i ∧ c = k)) cnt' ∧ cnt' < cnt ∧ w.grownBy w' (some r) ∧ w'.heap.size = w.heap.size ∧ (Instr.entry (.pointer (some ⟨r, 0, none⟩))).run Tryd.prog w' = .ok (.tuple #[pairV i k, .string s]) w' := by
  obtain ⟨n, D, lf, hrg, hD, hlf⟩ := h
  rcases hrg.next law86 ty with ⟨h0, hl, hrun⟩ | ⟨key, v, kl, y, w', cnt', hkey, hlk, hv, hat, hrun, hrg', hlt, hg, hsz, hen⟩
  · exact .inl ⟨h0, fun i k hi hk => by rw [← hlf i k hi hk]; exact hl _, hrun⟩
  · right
    obtain ⟨i, k, hF, rfl⟩ := hD.only kl (has_true_of_atKey hat)
    obtain ⟨s, hs⟩ : ∃ s, F i k = some s := by
      cases hf : F i k with
      | none => exact absurd hf hF
      | some s => exact ⟨s, rfl⟩
    obtain ⟨h1, h2, _⟩ := hD.dom i k s hs
    have hkv := law86.inj hkey (lit_ok (i := i) (k := k) (by omega) (by omega))
    subst hkv
    obtain ⟨s', rfl, hs', _⟩ := plainElem_string_inv Tryd.underlying9 hv
    have he := hD.val i k s hs (.lit (.string []))
    rw [hat, hs'] at he
    simp only [DataW.lit.injEq, Lit.string.injEq] at he
    obtain rfl : s' = s := data_eq he
    refine ⟨i, k, s', w', cnt', h1, h2, by rw [← hlf i k (by omega) (by omega)]; exact hlk, hs, hrun, ⟨n, D, _, hrg', hD, fun a c ha hc => ?_⟩, hlt, hg, hsz, hen⟩
    rw [hlf a c ha hc, lit_same ha hc (by omega) (by omega)]

end Go.Proofs.YtgnmanmlnbidfaaDoor
