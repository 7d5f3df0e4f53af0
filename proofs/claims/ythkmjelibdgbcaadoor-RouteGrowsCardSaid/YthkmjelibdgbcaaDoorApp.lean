/- Route: append on lists of names in memory. -/
import Derived.Test.YthkmjelibdgbcaaDoorLoop
import Derived.Deep.AppendLies
import Derived.Deep.RegionLaw
namespace Go.Proofs.YthkmjelibdgbcaaDoor
open Go.RowKit

def strs (l : List ByteArray) : List Value := l.map Value.string

theorem strs_length (l : List ByteArray) : (strs l).length = l.length := by simp [strs]
theorem strs_append (a b : List ByteArray) : strs (a ++ b) = strs a ++ strs b := by simp [strs]

/-- A list that the call itself made: its own row, from block 'base' on. -/
def OwnS (w : World) (base : Nat) (v : Value) (l : List ByteArray) : Prop := w.ownsRow base 9 1 v l.length (strs l)

theorem OwnS.nil (w : World) (base : Nat) : OwnS w base (.slice none 0 0) [] := World.ownsRow_nil _ _ _ _

theorem OwnS.reads {w : World} {base : Nat} {v : Value} {l : List ByteArray} (h : OwnS w base v l) : ∃ A cap, v = .slice A l.length cap ∧ ReadsS w A l ∧ l.length ≤ cap ∧ (∀ a, A = some a → base ≤ a.block) ∧ (A = none → cap = 0) := by
  obtain ⟨h1, h2⟩ := h
  rcases h2 with ⟨rfl, h0⟩ | ⟨g, cap, cur, rfl, hg, hh, hn, hc, hcur, ht⟩
  · exact ⟨none, 0, by rw [h0], .inl (List.length_eq_zero_iff.1 h0), by omega, by simp, fun _ => rfl⟩
  · refine ⟨_, cap, rfl, .inr ⟨g, 0, rfl, lt_of_block hh, fun i hi => ?_⟩, hn, by intro a e; obtain rfl := Option.some.inj e; exact hg, by intro e; cases e⟩
    simp only [World.cell?, hh, Nat.zero_add]
    have hi2 : i < l.length * 1 := by omega
    have e : cur.toList[i]? = (strs l)[i]? := by rw [← ht, List.getElem?_take_of_lt hi2]
    rw [Array.getElem?_toList] at e
    simp only [Option.isSome_none, Bool.false_eq_true, if_false]
    rw [e]
    simp [strs, hi]

theorem OwnS.mono {w : World} {base base' : Nat} {v : Value} {l : List ByteArray} (h : OwnS w base v l) (hb : base' ≤ base) : OwnS w base' v l := by
  obtain ⟨h1, h2⟩ := h
  rcases h2 with h2 | ⟨g, cap, cur, hv, hg, r⟩
  · exact ⟨h1, .inl h2⟩
  · exact ⟨h1, .inr ⟨g, cap, cur, hv, by omega, r⟩⟩

theorem OwnS.below {w w' : World} {base : Nat} {v : Value} {l : List ByteArray} (h : OwnS w base v l) (hb : Below w.heap.size w w') : OwnS w' base v l := by
  obtain ⟨h1, h2⟩ := h
  rcases h2 with h2 | ⟨g, cap, cur, hv, hg, hh, r⟩
  · exact ⟨h1, .inl h2⟩
  · exact ⟨h1, .inr ⟨g, cap, cur, hv, hg, (hb.block g (lt_of_block hh)).trans hh, r⟩⟩

theorem OwnS.blk {w : World} {base : Nat} {v : Value} {l : List ByteArray} (h : OwnS w base v l) : ∀ k, v.ownBlock = some k → base ≤ k ∧ k < w.heap.size := by
  obtain ⟨h1, h2⟩ := h
  intro k e
  rcases h2 with ⟨rfl, _⟩ | ⟨g, cap, cur, rfl, hg, hh, _⟩
  · simp [Value.ownBlock] at e
  · simp [Value.ownBlock] at e
    subst e
    exact ⟨hg, lt_of_block hh⟩

theorem OwnS.form {w : World} {base : Nat} {v : Value} {l : List ByteArray} (h : OwnS w base v l) : ∃ A cap, v = .slice A l.length cap := by
  obtain ⟨A, cap, e, _⟩ := h.reads
  exact ⟨A, cap, e⟩

theorem info9 : (Tryd.prog.info? 9).map (fun i => (i.zero, i.size, i.bytes)) = some (some (.string ⟨#[]⟩), 1, 16) := by kernel_rfl
theorem info_parts {t : TypeId} {z : Value} {n m : Nat} (h : (Tryd.prog.info? t).map (fun i => (i.zero, i.size, i.bytes)) = some (some z, n, m)) : ∃ i, Tryd.prog.info? t = some i ∧ i.zero = some z ∧ i.size = n ∧ i.bytes = m := by
  cases hi : Tryd.prog.info? t with
  | none => rw [hi] at h; cases h
  | some i =>
    rw [hi] at h
    simp only [Option.map_some, Option.some.injEq, Prod.mk.injEq] at h
    exact ⟨i, rfl, h.1, h.2.1, h.2.2⟩

/-- 'append(l, y)', the new element in a block of its own. -/
theorem wp_append_str {w : World} {o : Oper} {a : Act} {K : Act → World → Prop} {Q : Exit → Act → World → Prop} (s x : Operand) (t : TypeId) (ht : Tryd.prog.underlying t = some (.slice 9))
    (ho : o.op = .call { callee := .builtin .append, args := #[s, x], argTypes := #[t, t] }) (base : Nat)
    (v : Value) (l : List ByteArray) (hs : a.eval s = v) (hown : OwnS w base v l) (A : Option Addr) (m cap : Nat) (hx : a.eval x = .slice A m cap) (l2 : List ByteArray) (hm : l2.length = m) (hr : ReadsS w A l2) (hnil : A = none → cap = 0)
    (hlen : l.length + l2.length ≤ 8000000) (hbase : base ≤ w.heap.size) (l3 : List ByteArray) (h3 : l ++ l2 = l3)
    (h : ∀ A' cap' w', OwnS w' base (.slice A' l3.length cap') l3 → w.grownBy w' v.ownBlock → K (a.put o.dst (.slice A' l3.length cap')) w') : o.wp Tryd.prog a w K Q := by
  subst hm
  subst h3
  obtain ⟨i0, hi, hz0, hz1, hz2⟩ := info_parts info9
  have hl2 : (strs l2).length = l2.length * 1 := by rw [strs_length]; omega
  cases A with
  | none =>
    have hl0 : l2 = [] := by
      rcases hr with h | ⟨b, off, h, _⟩
      · exact h
      · cases h
    subst hl0
    have hc := hnil rfl
    subst hc
    have hrun := run_append_owned_none (P := Tryd.prog) (w := w) base t o.type 9 i0 1 ht hi v l.length (strs l) hown
    obtain ⟨A', cap', e⟩ := hown.form
    unfold Oper.wp
    simp [execOp, ho, resolve, invoke, builtin, hs, hx, hrun, Result.andThen]
    have h' := h A' cap' w (by rw [List.append_nil, ← e]; exact hown) ⟨rfl, rfl, rfl, Nat.le_refl _, fun _ _ _ => rfl⟩
    rw [List.append_nil, ← e] at h'
    exact h'
  | some ad =>
    refine wp_append_own w s x t ho base 9 i0 (.string ⟨#[]⟩) 1 16 ht hi hz0 hz1 hz2 rfl (by decide) v l.length (strs l) hs hown ad l2.length cap (strs l2) hx hl2 ?_ ?_ (by unfold maxLen; omega) (by omega) hbase ?_
    · intro j u hj
      rcases hr with h | ⟨b, off, h, hb, hc⟩
      · subst h; simp [strs] at hj
      · obtain rfl := Option.some.inj h
        have hjl : j < l2.length := by
          rcases Nat.lt_or_ge j l2.length with h | h
          · exact h
          · rw [List.getElem?_eq_none (by rw [strs_length]; exact h)] at hj; cases hj
        have hplain : (⟨b, off, none⟩ : Addr).add j = ⟨b, off + j, none⟩ := by unfold Addr.add; split <;> simp_all
        rw [hplain, hc j hjl, ← hj]
        simp [strs, hjl]
    · intro u hu
      simp only [strs, List.mem_map] at hu
      obtain ⟨n, _, rfl⟩ := hu
      rfl
    · intro v' w' h1 h2 _
      have h1' : OwnS w' base v' (l ++ l2) := by rw [OwnS, strs_append, List.length_append]; exact h1
      obtain ⟨A', cap', e⟩ := h1'.form
      rw [e] at h1' ⊢
      exact h A' cap' w' h1' h2

/-- The same at the list of a plain region's operations. -/
theorem wpList_append_str {w : World} {ops : Array Oper} {rest : List Oper} {o : Oper} {a : Act} {Q : Exit → Act → World → Prop} (hgd : o.guard = none) (s x : Operand) (t : TypeId) (ht : Tryd.prog.underlying t = some (.slice 9))
    (ho : o.op = .call { callee := .builtin .append, args := #[s, x], argTypes := #[t, t] }) (base : Nat)
    (v : Value) (l : List ByteArray) (hs : a.eval s = v) (hown : OwnS w base v l) (A : Option Addr) (m cap : Nat) (hx : a.eval x = .slice A m cap) (l2 : List ByteArray) (hm : l2.length = m) (hr : ReadsS w A l2) (hnil : A = none → cap = 0)
    (hlen : l.length + l2.length ≤ 8000000) (hbase : base ≤ w.heap.size) (l3 : List ByteArray) (h3 : l ++ l2 = l3)
    (h : ∀ A' cap' w', OwnS w' base (.slice A' l3.length cap') l3 → w.grownBy w' v.ownBlock → wpList Tryd.prog ops Q rest (a.put o.dst (.slice A' l3.length cap')) w') : wpList Tryd.prog ops Q (o :: rest) a w :=
  wpList_plain hgd fun _ hK => wp_append_str s x t ht ho base v l hs hown A m cap hx l2 hm hr hnil hlen hbase l3 h3 fun A' cap' w' h1 h2 => hK _ _ (h A' cap' w' h1 h2)

/-- The same at a step of a region that draws. -/
theorem step_append_str {w : World} {ops : Array Oper} {o : Oper} {a : Act} {K : Act → World → Prop} {Q : Exit → Act → World → Prop} {E : Prop} (hgd : o.guard = none) (s x : Operand) (t : TypeId) (ht : Tryd.prog.underlying t = some (.slice 9))
    (ho : o.op = .call { callee := .builtin .append, args := #[s, x], argTypes := #[t, t] }) (base : Nat)
    (v : Value) (l : List ByteArray) (hs : a.eval s = v) (hown : OwnS w base v l) (A : Option Addr) (m cap : Nat) (hx : a.eval x = .slice A m cap) (l2 : List ByteArray) (hm : l2.length = m) (hr : ReadsS w A l2) (hnil : A = none → cap = 0)
    (hlen : l.length + l2.length ≤ 8000000) (hbase : base ≤ w.heap.size) (l3 : List ByteArray) (h3 : l ++ l2 = l3)
    (h : ∀ A' cap' w', OwnS w' base (.slice A' l3.length cap') l3 → w.grownBy w' v.ownBlock → K (a.put o.dst (.slice A' l3.length cap')) w') : if Region.wanted o (yielded ops a.tmps) = true then Oper.wp Tryd.prog o a w K Q else E := by
  have hw : Region.wanted o (yielded ops a.tmps) = true := by simp [Region.wanted, hgd]
  rw [if_pos hw]
  exact wp_append_str s x t ht ho base v l hs hown A m cap hx l2 hm hr hnil hlen hbase l3 h3 h

/-- An element alone in a new block. -/
theorem reads_one (w : World) (y : ByteArray) : ReadsS (w.alloc (.cells #[.string y] 9)) (some ⟨w.heap.size, 0, none⟩) [y] := by
  refine .inr ⟨w.heap.size, 0, rfl, by simp, fun i hi => ?_⟩
  have : i = 0 := by simpa using hi
  subst this
  have h := heap_alloc_new w (.cells #[.string y] 9)
  simp only [World.cell?, h]
  rfl

theorem OwnS.alloc {w : World} {base : Nat} {v : Value} {l : List ByteArray} (h : OwnS w base v l) (o : Obj) : OwnS (w.alloc o) base v l :=
  h.below ((Below.refl _ _).alloc (Nat.le_refl _) o)

theorem OwnS.drew {w : World} {base : Nat} {v : Value} {l : List ByteArray} (h : OwnS w base v l) : OwnS w.drew base v l := h

theorem ReadsS.drew {w : World} {A : Option Addr} {l : List ByteArray} (h : ReadsS w A l) : ReadsS w.drew A l := h

/-- A list of one name in a new block is the call's own. -/
theorem own_one (w : World) (y : ByteArray) : OwnS (w.alloc (.cells #[.string y] 9)) w.heap.size (.slice (some ⟨w.heap.size, 0, none⟩) 1 1) [y] :=
  ⟨rfl, .inr ⟨w.heap.size, 1, #[.string y], rfl, Nat.le_refl _, heap_alloc_new _ _, Nat.le_refl _, by unfold maxLen; omega, rfl, rfl⟩⟩

theorem own_none (w : World) : OwnS (w.alloc (.cells #[] 9)) w.heap.size (.slice (some ⟨w.heap.size, 0, none⟩) 0 0) [] :=
  ⟨rfl, .inr ⟨w.heap.size, 0, #[], rfl, Nat.le_refl _, heap_alloc_new _ _, Nat.le_refl _, by unfold maxLen; omega, rfl, rfl⟩⟩

theorem OwnS.take {w : World} {base : Nat} {A : Option Addr} {n cap : Nat} {l : List ByteArray} (h : OwnS w base (.slice A n cap) l) (m : Nat) (hm : m ≤ l.length) : OwnS w base (.slice A m cap) (l.take m) := by
  obtain ⟨h1, h2⟩ := h
  have hlen : (l.take m).length = m := by simp; omega
  have hs : strs (l.take m) = (strs l).take m := by simp [strs]
  rcases h2 with ⟨h2, h3⟩ | ⟨g, cap', cur, hv, hg, hh, hn, hc, hcur, ht⟩
  · cases h2
    have hm0 : m = 0 := by omega
    subst hm0
    rw [List.take_zero]; exact OwnS.nil w base
  · simp only [Value.slice.injEq] at hv
    obtain ⟨rfl, _, rfl⟩ := hv
    refine ⟨by rw [hlen, strs_length, hlen]; omega, .inr ⟨g, cap, cur, by rw [hlen], hg, hh, by omega, hc, hcur, ?_⟩⟩
    rw [hlen, hs, ← ht, List.take_take]
    congr 1
    omega

end Go.Proofs.YthkmjelibdgbcaaDoor
