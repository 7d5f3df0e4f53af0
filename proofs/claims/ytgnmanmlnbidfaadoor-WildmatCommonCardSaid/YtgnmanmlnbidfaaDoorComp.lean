/- Wildmat: Compile, by a walk through its text. -/
import Derived.Test.YtgnmanmlnbidfaaDoorPCls
import Derived.Test.YtgnmanmlnbidfaaDoorMat
import Derived.Laws.AppendOwnNone
import Derived.Maps.AppendAt
import Derived.Deep.RegionLaw
namespace Go.Proofs.YtgnmanmlnbidfaaDoor
open Go.RowKit

theorem items_small : ∀ (n : Nat) (first : Bool) (acc l : List Nat) (x : List Nat × Nat), (∀ c ∈ acc, c < 256) → itemsF n first acc l = some x → ∀ c ∈ x.1, c < 256 := by
  intro n
  induction n with
  | zero => intro _ _ _ _ _ h; cases h
  | succ n ih =>
    intro first acc l x ha h
    cases l with
    | nil => cases h
    | cons c r =>
      rw [itemsF] at h
      split at h
      · split at h
        · cases h
        · cases h; exact ha
      · split at h
        · cases h
        · rename_i hn
          split at h
          · split at h
            · cases h
            · rename_i d r' hr
              split at h
              · rename_i hrk
                refine ih _ _ _ _ (fun y hy => ?_) h
                rcases List.mem_append.1 hy with hy | hy
                · exact ha y hy
                · exact rangeL_lt hrk y hy
              · cases h
          · refine ih _ _ _ _ (fun y hy => ?_) h
            rcases List.mem_append.1 hy with hy | hy
            · exact ha y hy
            · obtain rfl : y = c := by simpa using hy
              have : namedB y = true := by
                cases hb : namedB y with
                | true => rfl
                | false => exact absurd (.inl hb) hn
              have := named_lt this
              omega

theorem class_small {r : List Nat} {e : El} {m : Nat} (h : classF r = some (e, m)) : e.small := by
  unfold classF at h
  split at h
  all_goals
    rw [Option.map_eq_some_iff] at h
    obtain ⟨x, hx, he⟩ := h
    cases he
    exact items_small _ _ _ _ _ (by simp) hx

theorem comp_small : ∀ (n : Nat) (l : List Nat) (acc : List El), (∀ e ∈ acc, e.small) → ∀ e ∈ (compGo n l acc).1, e.small := by
  intro n
  induction n with
  | zero => intro l acc h; exact h
  | succ n ih =>
    intro l acc h
    cases l with
    | nil => exact h
    | cons c r =>
      have hx : ∀ e : El, e.small → ∀ x ∈ acc ++ [e], x.small := by
        intro e he x hx
        rcases List.mem_append.1 hx with hx | hx
        · exact h x hx
        · obtain rfl : x = e := by simpa using hx
          exact he
      rw [compGo]
      split
      · rename_i hc
        exact ih r _ (hx (.one c) (by have := named_lt hc; show c < 256; omega))
      · split
        · exact ih r _ (hx (.cls [] true) (by intro c hc; cases hc))
        · split
          · exact ih r _ (hx .star trivial)
          · split
            · split
              · simp
              · rename_i e m hcl
                exact ih _ _ (hx e (class_small hcl))
            · simp

theorem compF_small (l : List Nat) : ∀ e ∈ (compF l).1, e.small := by
  unfold compF
  split
  · simp
  · split
    · simp
    · simp only
      split
      · exact comp_small _ l [] (by simp)
      · simp

theorem comp_end (n : Nat) (l : List Nat) (acc : List El) {k : Nat} (h : l.length ≤ k) : compGo n (l.drop k) acc = (acc, 0, 0) := by
  rw [List.drop_eq_nil_of_le h]
  cases n <;> rfl

theorem comp_named (n : Nat) (l : List Nat) (acc : List El) {k : Nat} (h : k < l.length) (hc : namedB (l.getD k 0) = true) : compGo (n + 1) (l.drop k) acc = compGo n (l.drop (k + 1)) (acc ++ [.one (l.getD k 0)]) := by
  rw [drop_at h, compGo, if_pos hc]
theorem comp_any (n : Nat) (l : List Nat) (acc : List El) {k : Nat} (h : k < l.length) (hc : l.getD k 0 = 63) : compGo (n + 1) (l.drop k) acc = compGo n (l.drop (k + 1)) (acc ++ [.cls [] true]) := by
  rw [drop_at h, compGo, hc, if_neg (by decide), if_pos rfl]
theorem comp_star (n : Nat) (l : List Nat) (acc : List El) {k : Nat} (h : k < l.length) (hc : l.getD k 0 = 42) : compGo (n + 1) (l.drop k) acc = compGo n (l.drop (k + 1)) (acc ++ [.star]) := by
  rw [drop_at h, compGo, hc, if_neg (by decide), if_neg (by decide), if_pos rfl]
theorem comp_class_no (n : Nat) (l : List Nat) (acc : List El) {k : Nat} (h : k < l.length) (hc : l.getD k 0 = 91) (hn : classF (l.drop (k + 1)) = none) : compGo (n + 1) (l.drop k) acc = ([], l.length - k, 3) := by
  rw [drop_at h, compGo, hc, if_neg (by decide), if_neg (by decide), if_neg (by decide), if_pos rfl, hn]
  simp only [List.length_drop, Prod.mk.injEq, and_true, true_and]
  omega
theorem comp_class (n : Nat) (l : List Nat) (acc : List El) {k : Nat} (h : k < l.length) (hc : l.getD k 0 = 91) {e : El} {m : Nat} (hn : classF (l.drop (k + 1)) = some (e, m)) : compGo (n + 1) (l.drop k) acc = compGo n (l.drop (l.length - m)) (acc ++ [e]) := by
  have hm := class_len hn
  rw [List.length_drop] at hm
  rw [drop_at h, compGo, hc, if_neg (by decide), if_neg (by decide), if_neg (by decide), if_pos rfl, hn]
  simp only [List.drop_drop, List.length_drop]
  rw [show k + 1 + (l.length - (k + 1) - m) = l.length - m by omega]
theorem comp_bad (n : Nat) (l : List Nat) (acc : List El) {k : Nat} (h : k < l.length) (h1 : namedB (l.getD k 0) = false) (h2 : l.getD k 0 ≠ 63) (h3 : l.getD k 0 ≠ 42) (h4 : l.getD k 0 ≠ 91) : compGo (n + 1) (l.drop k) acc = ([], l.length - k, 6) := by
  rw [drop_at h, compGo, if_neg (by rw [h1]; simp), if_neg h2, if_neg h3, if_neg h4]
  simp only [List.length_drop, Prod.mk.injEq, and_true, true_and]
  omega

theorem isEmpty_dec (s : ByteArray) : s.toList.isEmpty = decide (s.size = 0) := by
  rw [ByteArray.toList_eq]
  have hl : s.data.toList.length = s.size := by simp
  rw [Bool.eq_iff_iff, List.isEmpty_iff, decide_eq_true_eq, ← hl]
  exact List.length_eq_zero_iff.symm

/-- What Compile leaves. -/
def CompPost (w : World) (s : ByteArray) (R : List El × Nat × Nat) (e : Ending) (w' : World) : Prop :=
  (∃ p, e = .returned (.tuple #[p, .int .i64 (R.2.1 : Nat), .int .i64 (R.2.2 : Nat)]) ∧ ((R.2.2 = 0 ∧ ∃ b A cap, p = .pointer (some ⟨b, 0, none⟩) ∧ w.heap.size ≤ b ∧ (∀ a, A = some a → w.heap.size ≤ a.block ∧ a.block < w'.heap.size) ∧ IsPat w' w'.heap.size b s R.1 A cap) ∨ (R.2.2 ≠ 0 ∧ p = .pointer none))) ∧ Below w.heap.size w w'

theorem info76 : (Tryd.prog.info? 76).map (fun i => (i.zero, i.size, i.bytes)) = some (some .nilIface, 1, 16) := by kernel_rfl

/-- A pattern's own block. -/
def patB (s : ByteArray) (v : Value) : Obj := .cells #[.string s, v] 59 (0, 0)

theorem patB_cells {w : World} {b : Nat} {s : ByteArray} {v : Value} (h : w.heap[b]? = some (patB s v)) : w.cell? ⟨b, 0, none⟩ = some (.string s) ∧ w.cell? ⟨b, 1, none⟩ = some v ∧ w.frozen? ⟨b, 1, none⟩ = false := by
  simp [World.cell?, World.frozen?, h, patB]

theorem patB_store {w : World} {b : Nat} {s : ByteArray} {v v' : Value} (h : w.heap[b]? = some (patB s v)) : (w.setCell ⟨b, 1, none⟩ v').heap[b]? = some (patB s v') := by
  have hlt := lt_of_block h
  have h' : w.heap[b] = patB s v := by simpa [Array.getElem?_eq_getElem hlt] using h
  show (w.heap.modify b _)[b]? = _
  rw [Array.getElem?_eq_getElem (by simpa using hlt), Array.getElem_modify_self, h']
  simp [patB]

/-- The append's law at a step of a region that draws. -/
theorem step_append_own {P : Program} {w : World} {ops : Array Oper} {o : Oper} {a : Act} {K : Act → World → Prop} {Q : Exit → Act → World → Prop} {E : Prop} (hgd : o.guard = none) (s x : Operand) (t : TypeId)
    (ho : o.op = .call { callee := .builtin .append, args := #[s, x], argTypes := #[t, t] })
    (base : Nat) (e : TypeId) (i : TypeInfo) (z : Value) (size bytes : Nat) (ht : P.underlying t = some (.slice e)) (hi : P.info? e = some i) (hz : i.zero = some z)
    (hsize : i.size = size) (hby : i.bytes = bytes) (hzs : z.cells.size = size) (hsz : 0 < size)
    (v : Value) (n : Nat) (xs : List Value) (hs : a.eval s = v) (hown : w.ownsRow base e size v n xs)
    (ad : Addr) (m c : Nat) (news : List Value) (hx : a.eval x = .slice (some ad) m c) (hl : news.length = m * size) (hnews : ∀ j u, news[j]? = some u → w.cell? (ad.add j) = some u) (h1 : ∀ u ∈ news, u.oneCell' = true)
    (h63 : n + m ≤ maxLen) (hbytes : (n + m) * bytes ≤ 140737488355328) (hbase : base ≤ w.heap.size)
    (h : ∀ v' w', w'.ownsRow base e size v' (n + m) (xs ++ news) → w.grownBy w' v.ownBlock → K (a.put o.dst v') w') : if Region.wanted o (yielded ops a.tmps) = true then Oper.wp P o a w K Q else E := by
  have hw : Region.wanted o (yielded ops a.tmps) = true := by simp [Region.wanted, hgd]
  rw [if_pos hw]
  exact wp_append_own w s x t ho base e i z size bytes ht hi hz hsize hby hzs hsz v n xs hs hown ad m c news hx hl hnews h1 h63 hbytes hbase (fun v' w' h2 h3 _ => h v' w' h2 h3)

/-- One element more: what the append and the store leave. -/
theorem pat_step {w wr w1 : World} {s : ByteArray} {v : Value} {n : Nat} {xs : List Value} {o : Obj} (hp : wr.heap[w.heap.size]? = some (patB s v)) (ho : wr.ownsRow (w.heap.size + 1) 76 1 v n xs) (hb : Below w.heap.size w wr)
    (hg : (wr.alloc o).grownBy w1 v.ownBlock) :
    w1.heap[w.heap.size]? = some (patB s v) ∧ Below w.heap.size w w1 := by
  have hlt := lt_of_block hp
  constructor
  · rw [hg.block _ (by simp; omega) (fun e => by have := (ho.lt _ e.symm).1; omega), Below.heap_alloc _ _ _ hlt]
    exact hp
  · exact (hb.alloc hb.size _).grown hg (by simp; omega) (fun k e => by have := (ho.lt _ e).1; omega)

theorem pat_store {w w1 : World} {s : ByteArray} {v v' : Value} {n : Nat} {xs : List Value} (hp : w1.heap[w.heap.size]? = some (patB s v)) (ho : w1.ownsRow (w.heap.size + 1) 76 1 v' n xs) (hb : Below w.heap.size w w1) :
    (w1.setCell ⟨w.heap.size, 1, none⟩ v').heap[w.heap.size]? = some (patB s v') ∧ (w1.setCell ⟨w.heap.size, 1, none⟩ v').ownsRow (w.heap.size + 1) 76 1 v' n xs ∧ Below w.heap.size w (w1.setCell ⟨w.heap.size, 1, none⟩ v') :=
  ⟨patB_store hp, ho.kept (grown_setCell w1 w.heap.size 1 v') (by
    cases hv : v'.ownBlock with
    | none => exact .inl rfl
    | some k =>
      right
      intro e
      have := (ho.lt k hv).1
      have := Option.some.inj e
      omega), hb.setCell (p := ⟨w.heap.size, 1, none⟩) (Nat.le_refl _) _⟩

theorem pat_all {w wr w1 : World} {s : ByteArray} {v v1 : Value} {n : Nat} {xs ys : List Value} {o : Obj} (hp : wr.heap[w.heap.size]? = some (patB s v)) (ho : wr.ownsRow (w.heap.size + 1) 76 1 v n xs) (hb : Below w.heap.size w wr)
    (hg : (wr.alloc o).grownBy w1 v.ownBlock) (hown : w1.ownsRow (w.heap.size + 1) 76 1 v1 (n + 1) ys) :
    ∃ g cap, v1 = .slice (some ⟨g, 0, none⟩) (n + 1) cap ∧ w1.cell? ⟨w.heap.size, 1, none⟩ = some v ∧ w1.frozen? ⟨w.heap.size, 1, none⟩ = false ∧ Hid ((w1.setCell ⟨w.heap.size, 1, none⟩ (.slice (some ⟨g, 0, none⟩) (n + 1) cap)).heap[w.heap.size]? = some (patB s (.slice (some ⟨g, 0, none⟩) (n + 1) cap))) ∧
      Hid ((w1.setCell ⟨w.heap.size, 1, none⟩ (.slice (some ⟨g, 0, none⟩) (n + 1) cap)).ownsRow (w.heap.size + 1) 76 1 (.slice (some ⟨g, 0, none⟩) (n + 1) cap) (n + 1) ys) ∧ Hid (Below w.heap.size w (w1.setCell ⟨w.heap.size, 1, none⟩ (.slice (some ⟨g, 0, none⟩) (n + 1) cap))) := by
  obtain ⟨HP1, HB1⟩ := pat_step hp ho hb hg
  obtain ⟨_, k1, k2⟩ := patB_cells HP1
  have hform : ∃ g cap, v1 = .slice (some ⟨g, 0, none⟩) (n + 1) cap := by
    rcases hown.2 with ⟨_, h⟩ | ⟨g, cap, cur, hv, _⟩
    · omega
    · exact ⟨g, cap, hv⟩
  obtain ⟨g, cap, rfl⟩ := hform
  obtain ⟨X1, X2, X3⟩ := pat_store HP1 hown HB1
  exact ⟨g, cap, rfl, k1, k2, Lib.hid X1, Lib.hid X2, Lib.hid X3⟩

/-- A pattern whose elements are a row of the call's own. -/
theorem pat_done {w : World} {b : Nat} {s : ByteArray} {v : Value} {L : List El} (hp : w.heap[b]? = some (patB s v)) (ho : w.ownsRow (b + 1) 76 1 v L.length (L.map elV)) (h1 : ∀ e ∈ L, e.small) (h2 : ∀ e ∈ L, e.ok) (h3 : L.length ≤ 80) :
    ∃ A cap, (∀ a, A = some a → b ≤ a.block ∧ a.block < w.heap.size) ∧ IsPat w w.heap.size b s L A cap := by
  obtain ⟨c0, c1, _⟩ := patB_cells hp
  rcases ho.2 with ⟨rfl, h⟩ | ⟨g, cap, cur, rfl, hg, hh, _, _, _, _⟩
  · exact ⟨none, 0, fun a h => (by cases h), lt_of_block hp, c0, by rw [c1, h], .inl (by rw [List.map_eq_nil_iff]; exact List.eq_nil_of_length_eq_zero h), h1, h2, h3⟩
  · refine ⟨_, cap, fun a h => (by cases h; exact ⟨Nat.le_of_succ_le hg, lt_of_block hh⟩), lt_of_block hp, c0, c1, .inr ⟨g, 0, rfl, lt_of_block hh, fun i hi => ?_⟩, h1, h2, h3⟩
    rw [Nat.zero_add]
    have h := ho.cells rfl i ((L.map elV).getD i undef) (by rw [List.getD_eq_getElem?_getD, List.getElem?_eq_getElem hi]; rfl)
    have hadd : ∀ j, (⟨g, 0, none⟩ : Addr).add j = ⟨g, 0 + j, none⟩ := fun j => by unfold Addr.add; split <;> simp_all
    rw [hadd, Nat.zero_add] at h
    exact h

theorem comp_none {w w' : World} {s : ByteArray} {R : List El × Nat × Nat} {a n : Nat} {L : List El} (h : R = (L, a, n)) (hn : n ≠ 0) (hB : Below w.heap.size w w') : CompPost w s R (.returned (.tuple #[.pointer none, .int .i64 a, .int .i64 n])) w' := by
  subst h
  exact ⟨⟨_, rfl, .inr ⟨hn, rfl⟩⟩, hB⟩

set_option maxRecDepth 100000 in
set_option maxHeartbeats 4000000 in
theorem Compile_any (s : ByteArray) (w : World) (hs0 : s.size ≤ 100000) : Calls Tryd.prog 12 #[.string s] w (CompPost w s (compF (chars s))) := by
  by_cases h0 : s.size = 0
  · have E : Hid (compF (chars s) = ([], 0, 4)) := Lib.hid (by rw [compF, chars_length, if_pos h0])
    obtain rfl : s = ByteArray.empty := ByteArray.ext (Array.eq_empty_of_size_eq_zero h0)
    clear h0 hs0
    go_enter Tryd.func12, Tryd.ntmps12
    go_wp2_with fail
    go_ret3
    exact comp_none E.out (by decide) (Below.refl _ _)
  · have hemp : s.toList.isEmpty = false := by rw [isEmpty_dec, decide_eq_false h0]
    by_cases h80 : 80 < s.size
    · have E : Hid (compF (chars s) = ([], 80, 5)) := Lib.hid (by rw [compF, chars_length, if_neg h0, if_pos h80])
      have hd : decide ((80 : Int) < (s.size : Int)) = true := decide_eq_true (by omega)
      clear h0 h80
      go_enter Tryd.func12, Tryd.ntmps12
      go_wp2_with fail
      go_ret3
      exact comp_none E.out (by decide) (Below.refl _ _)
    · have hs : s.size ≤ 100 := by omega
      clear hs0
      have hd : decide ((80 : Int) < (s.size : Int)) = false := decide_eq_false (by omega)
      obtain ⟨R, hR⟩ : ∃ R, compGo (s.size + 1) (chars s) [] = R := ⟨_, rfl⟩
      have E : Hid (compF (chars s) = if R.2.2 = 0 then (R.1, 0, 0) else ([], s.size - R.2.1, R.2.2)) := Lib.hid (by rw [compF, chars_length, if_neg h0, if_neg h80, hR])
      have HR := Lib.hid hR
      clear hR h0
      go_enter Tryd.func12, Tryd.ntmps12
      go_wp2_with fail
      obtain ⟨i0, hi, hz0, hz1, hz2⟩ := info_parts info76
      have Hi := Lib.hid hi
      have Z0 := Lib.hid hz0
      have Z1 := Lib.hid hz1
      have Z2 := Lib.hid hz2
      clear hi hz0 hz1 hz2
      obtain ⟨W, hW⟩ : ∃ W, w.alloc (.cells #[.string s, .slice none 0 0] 59) = W := ⟨_, rfl⟩
      have HP0 : Hid (W.heap[w.heap.size]? = some (patB s (.slice none 0 0))) := Lib.hid (by rw [← hW]; exact heap_alloc_new w _)
      have HB0 : Hid (Below w.heap.size w W) := Lib.hid (by rw [← hW]; exact (Below.refl _ _).alloc (Nat.le_refl _) _)
      have HO0 : Hid (W.ownsRow (w.heap.size + 1) 76 1 (.slice none 0 0) 0 []) := Lib.hid (World.ownsRow_nil _ _ _ _)
      rw [hW]
      clear hW
      go_loopw [6] (fun va wr => ∃ (k f : Nat) (acc : List El) (v : Value), k ≤ s.size ∧ va = .int .i64 k ∧ Hid (acc.length ≤ k) ∧ Hid (s.size + 1 ≤ k + f) ∧ Hid (compGo f ((chars s).drop k) acc = R) ∧ Hid (wr.heap[w.heap.size]? = some (patB s v)) ∧ Hid (wr.ownsRow (w.heap.size + 1) 76 1 v acc.length (acc.map elV)) ∧ Hid (Below w.heap.size w wr)) (fun va _ => (s.size - intOf va).toNat)
      case atStart => exact ⟨0, s.size + 1, [], .slice none 0 0, by omega, rfl, Lib.hid (by simp), Lib.hid (by omega), Lib.hid (by rw [List.drop_zero]; exact HR.out), HP0, HO0, HB0⟩
      case round =>
        obtain ⟨k, f, acc, v, hk, rfl, HA, HF, HC, HP, HO, HB⟩ := hrel
        obtain ⟨c0, c1, f1⟩ := patB_cells HP.out
        by_cases hlt : k < s.size
        · have hlc : k < (chars s).length := by rw [chars_length]; exact hlt
          have hix := chars_get s k hlt
          have hc256 := chars_lt s k
          obtain ⟨f', rfl⟩ : ∃ f', f = f' + 1 := ⟨f - 1, by have := HF.out; omega⟩
          by_cases hn : namedB ((chars s).getD k 0) = true
          · have HC2 : Hid (compGo f' ((chars s).drop (k + 1)) (acc ++ [.one ((chars s).getD k 0)]) = R) := Lib.hid (by rw [← HC.out]; exact (comp_named _ _ _ hlc hn).symm)
            have HN := Lib.hid hn
            clear hn hlc
            generalize (chars s).getD k 0 = c at *
            go_wp2_with fail
            refine (named_any _ hc256 _).mono ?_
            rintro e2 w2 ⟨rfl, rfl⟩
            rw [HN.out]
            have OW := HO.out.alloc (.cells #[.iface 61 (.int .u8 c)] 76)
            go_wp2_with (at_builtin; refine wpList_append_own _ rfl _ _ 57 rfl (w.heap.size + 1) 76 i0 .nilIface 1 16 Tryd.underlying57 Hi.out Z0.out Z1.out Z2.out rfl (by decide) _ acc.length (acc.map elV) rfl OW ⟨wr.heap.size, 0, none⟩ 1 1 [.iface 61 (.int .u8 c)] rfl rfl ?c1a ?c2a ?c3a ?c4a ?c5a ?_)
            case c1a => exact cell_one_new _ _ _
            case c2a => intro u hu; simp at hu; subst hu; rfl
            case c3a => unfold maxLen; have := HA.out; omega
            case c4a => have := HA.out; omega
            case c5a => simp; have := lt_of_block HP.out; omega
            intro v1 w1 hown1 hg1 _
            obtain ⟨HP1, HB1⟩ := pat_step HP.out HO.out HB.out hg1
            obtain ⟨_, k1, k2⟩ := patB_cells HP1
            obtain ⟨X1, X2, X3⟩ := pat_store HP1 hown1 HB1
            have hform : ∃ g cap, v1 = .slice (some ⟨g, 0, none⟩) (acc.length + 1) cap := by
              rcases hown1.2 with ⟨_, h⟩ | ⟨g, cap, cur, hv, _⟩
              · omega
              · exact ⟨g, cap, hv⟩
            obtain ⟨g, cap, rfl⟩ := hform
            have Y1 := Lib.hid X1
            have Y2 := Lib.hid X2
            have Y3 := Lib.hid X3
            clear X1 X2 X3 HP1 HB1 hown1 hg1
            go_wp2_with fail
            go_roundw
            case measure => simp [intOf]; omega
            case rel => exact ⟨k + 1, f', acc ++ [.one c], _, by omega, by go_num, Lib.hid (by have := HA.out; simp; omega), Lib.hid (by have := HF.out; omega), HC2, Y1, Lib.hid (by rw [List.map_append, List.length_append]; exact Y2.out), Y3⟩
          · have hn : namedB ((chars s).getD k 0) = false := by simpa using hn
            have HN := Lib.hid hn
            by_cases h63 : (chars s).getD k 0 = 63
            · have HC2 : Hid (compGo f' ((chars s).drop (k + 1)) (acc ++ [.cls [] true]) = R) := Lib.hid (by rw [← HC.out]; exact (comp_any _ _ _ hlc h63).symm)
              have c63 : (((chars s).getD k 0 : Int) == 63) = true := by rw [h63]; rfl
              clear hn hlc h63
              generalize (chars s).getD k 0 = c at *
              have OW := HO.out.alloc (.cells #[.iface 63 (.agg #[.string ⟨#[]⟩, .bool true])] 76)
              go_wp2_with fail
              refine (named_any _ hc256 _).mono ?_
              rintro e2 w2 ⟨rfl, rfl⟩
              rw [HN.out]
              go_wp2_with (at_builtin; refine wpList_append_own _ rfl _ _ 57 rfl (w.heap.size + 1) 76 i0 .nilIface 1 16 Tryd.underlying57 Hi.out Z0.out Z1.out Z2.out rfl (by decide) _ acc.length (acc.map elV) rfl OW ⟨wr.heap.size, 0, none⟩ 1 1 [.iface 63 (.agg #[.string ⟨#[]⟩, .bool true])] rfl rfl ?c1b ?c2b ?c3b ?c4b ?c5b ?_)
              case c1b => exact cell_one_new _ _ _
              case c2b => intro u hu; simp at hu; subst hu; rfl
              case c3b => unfold maxLen; have := HA.out; omega
              case c4b => have := HA.out; omega
              case c5b => simp; have := lt_of_block HP.out; omega
              intro v1 w1 hown1 hg1 _
              obtain ⟨HP1, HB1⟩ := pat_step HP.out HO.out HB.out hg1
              obtain ⟨_, k1, k2⟩ := patB_cells HP1
              obtain ⟨X1, X2, X3⟩ := pat_store HP1 hown1 HB1
              have hform : ∃ g cap, v1 = .slice (some ⟨g, 0, none⟩) (acc.length + 1) cap := by
                rcases hown1.2 with ⟨_, h⟩ | ⟨g, cap, cur, hv, _⟩
                · omega
                · exact ⟨g, cap, hv⟩
              obtain ⟨g, cap, rfl⟩ := hform
              have Y1 := Lib.hid X1
              have Y2 := Lib.hid X2
              have Y3 := Lib.hid X3
              clear X1 X2 X3 HP1 HB1 hown1 hg1
              go_wp2_with fail
              go_roundw
              case measure => simp [intOf]; omega
              case rel => exact ⟨k + 1, f', acc ++ [.cls [] true], _, by omega, by go_num, Lib.hid (by have := HA.out; simp; omega), Lib.hid (by have := HF.out; omega), HC2, Y1, Lib.hid (by rw [List.map_append, List.length_append]; exact Y2.out), Y3⟩
            · have c63 : (((chars s).getD k 0 : Int) == 63) = false := by simp only [beq_eq_false_iff_ne, ne_eq]; omega
              by_cases h42 : (chars s).getD k 0 = 42
              · have HC2 : Hid (compGo f' ((chars s).drop (k + 1)) (acc ++ [.star]) = R) := Lib.hid (by rw [← HC.out]; exact (comp_star _ _ _ hlc h42).symm)
                have c42 : (((chars s).getD k 0 : Int) == 42) = true := by rw [h42]; rfl
                clear hn hlc h63 h42
                generalize (chars s).getD k 0 = c at *
                have OW := HO.out.alloc (.cells #[.iface 65 (.agg #[])] 76)
                go_wp2_with fail
                refine (named_any _ hc256 _).mono ?_
                rintro e2 w2 ⟨rfl, rfl⟩
                rw [HN.out]
                go_wp2_with (at_builtin; refine wpList_append_own _ rfl _ _ 57 rfl (w.heap.size + 1) 76 i0 .nilIface 1 16 Tryd.underlying57 Hi.out Z0.out Z1.out Z2.out rfl (by decide) _ acc.length (acc.map elV) rfl OW ⟨wr.heap.size, 0, none⟩ 1 1 [.iface 65 (.agg #[])] rfl rfl ?c1c ?c2c ?c3c ?c4c ?c5c ?_)
                case c1c => exact cell_one_new _ _ _
                case c2c => intro u hu; simp at hu; subst hu; rfl
                case c3c => unfold maxLen; have := HA.out; omega
                case c4c => have := HA.out; omega
                case c5c => simp; have := lt_of_block HP.out; omega
                intro v1 w1 hown1 hg1 _
                obtain ⟨HP1, HB1⟩ := pat_step HP.out HO.out HB.out hg1
                obtain ⟨_, k1, k2⟩ := patB_cells HP1
                obtain ⟨X1, X2, X3⟩ := pat_store HP1 hown1 HB1
                have hform : ∃ g cap, v1 = .slice (some ⟨g, 0, none⟩) (acc.length + 1) cap := by
                  rcases hown1.2 with ⟨_, h⟩ | ⟨g, cap, cur, hv, _⟩
                  · omega
                  · exact ⟨g, cap, hv⟩
                obtain ⟨g, cap, rfl⟩ := hform
                have Y1 := Lib.hid X1
                have Y2 := Lib.hid X2
                have Y3 := Lib.hid X3
                clear X1 X2 X3 HP1 HB1 hown1 hg1
                go_wp2_with fail
                go_roundw
                case measure => simp [intOf]; omega
                case rel => exact ⟨k + 1, f', acc ++ [.star], _, by omega, by go_num, Lib.hid (by have := HA.out; simp; omega), Lib.hid (by have := HF.out; omega), HC2, Y1, Lib.hid (by rw [List.map_append, List.length_append]; exact Y2.out), Y3⟩
              · have c42 : (((chars s).getD k 0 : Int) == 42) = false := by simp only [beq_eq_false_iff_ne, ne_eq]; omega
                by_cases h91 : (chars s).getD k 0 = 91
                · have c91 : (((chars s).getD k 0 : Int) == 91) = true := by rw [h91]; rfl
                  have hxs : (s.extract k s.size).size = s.size - k := by rw [ByteArray.size_extract]; omega
                  have hcx := chars_rest s k
                  have hx0 : (chars (s.extract k s.size)).getD 0 0 = 91 := by rw [hcx, ← h91, List.getD_eq_getElem?_getD, List.getD_eq_getElem?_getD, List.getElem?_drop, Nat.add_zero]
                  have hxc : (chars (s.extract k s.size)).drop 1 = (chars s).drop (k + 1) := by rw [hcx, List.drop_drop]
                  have HXS := Lib.hid hxs
                  clear hcx
                  cases hcl : classF ((chars s).drop (k + 1)) with
                  | none =>
                    have HE : Hid (compF (chars s) = ([], k, 3)) := Lib.hid (by
                      have h := HC.out
                      rw [comp_class_no _ _ _ hlc h91 hcl, chars_length] at h
                      rw [E.out, ← h]
                      show (if (3 : Nat) = 0 then _ else (([] : List El), s.size - (s.size - k), 3)) = _
                      rw [if_neg (by decide), show s.size - (s.size - k) = k by omega])
                    have HPC := parseClass_any (s.extract k s.size) wr (by rw [hxs]; omega) hx0 (by rw [hxs]; omega)
                    rw [hxs, hxc, hcl] at HPC
                    have HPC := Lib.hid HPC
                    clear hn hlc h63 h42 h91 hcl hxs hx0 hxc
                    generalize (chars s).getD k 0 = c at *
                    go_wp2_with fail
                    refine (named_any _ hc256 _).mono ?_
                    rintro e2 w2 ⟨rfl, rfl⟩
                    rw [HN.out]
                    go_wp2_with fail
                    refine HPC.out.mono ?_
                    rintro e2 w2 ⟨⟨x, i, n, rfl, hans⟩, b2⟩
                    obtain rfl : n = 0 := hans.out
                    have HB2 : Hid (Below w.heap.size w (w2.alloc (.cells #[.string x, .bool i] 63))) := Lib.hid ((HB.out.trans (b2.mono HB.out.size)).alloc (Nat.le_trans HB.out.size b2.size) _)
                    clear b2 hans
                    go_wp2_with fail
                    go_ret3
                    exact comp_none HE.out (by decide) HB2.out
                  | some q =>
                    obtain ⟨e, m⟩ := q
                    have hm := class_len hcl
                    rw [List.length_drop, chars_length] at hm
                    have HC2 : Hid (compGo f' ((chars s).drop (s.size - m)) (acc ++ [e]) = R) := Lib.hid (by rw [← HC.out, ← chars_length]; exact (comp_class _ _ _ hlc h91 hcl).symm)
                    have HPC := parseClass_any (s.extract k s.size) wr (by rw [hxs]; omega) hx0 (by rw [hxs]; omega)
                    rw [hxs, hxc, hcl] at HPC
                    have HPC := Lib.hid HPC
                    clear hn hlc h63 h42 h91 hcl hxs hx0 hxc
                    generalize (chars s).getD k 0 = c at *
                    go_wp2_with fail
                    refine (named_any _ hc256 _).mono ?_
                    rintro e2 w2 ⟨rfl, rfl⟩
                    rw [HN.out]
                    go_wp2_with fail
                    refine HPC.out.mono ?_
                    rintro e2 w2 ⟨⟨x, i, n, rfl, hans⟩, b2⟩
                    obtain ⟨hv, hn1, hn0⟩ := hans.out
                    have hnn : ((n : Int) == 0) = false := by simp only [beq_eq_false_iff_ne, ne_eq]; omega
                    have HV := Lib.hid hv
                    have hnm : n + m + k = s.size := by omega
                    have HNM := Lib.hid hnm
                    have hn100 : n ≤ 100 := by omega
                    have HP2 : Hid (w2.heap[w.heap.size]? = some (patB s v)) := Lib.hid ((b2.block _ (lt_of_block HP.out)).trans HP.out)
                    have HO2 : Hid (w2.ownsRow (w.heap.size + 1) 76 1 v acc.length (acc.map elV)) := Lib.hid (HO.out.kept (grown_of_below b2 none) (by cases v.ownBlock <;> simp))
                    have HB2 : Hid (Below w.heap.size w w2) := Lib.hid (HB.out.trans (b2.mono HB.out.size))
                    clear b2 hans hv hn1 hnm c0 c1 f1
                    obtain ⟨W3, hW3⟩ : ∃ W3, w2.alloc (.cells #[.string x, .bool i] 63) = W3 := ⟨_, rfl⟩
                    have HP3 : Hid (W3.heap[w.heap.size]? = some (patB s v)) := Lib.hid (by rw [← hW3, Below.heap_alloc _ _ _ (lt_of_block HP2.out)]; exact HP2.out)
                    have HO3 : Hid (W3.ownsRow (w.heap.size + 1) 76 1 v acc.length (acc.map elV)) := Lib.hid (by rw [← hW3]; exact HO2.out.alloc _)
                    have HB3 : Hid (Below w.heap.size w W3) := Lib.hid (by rw [← hW3]; exact HB2.out.alloc HB2.out.size _)
                    obtain ⟨eb, heb⟩ : ∃ eb, w2.heap.size = eb := ⟨_, rfl⟩
                    have HX3 : Hid (W3.cell? ⟨eb, 0, none⟩ = some (.string x) ∧ W3.cell? ⟨eb, 1, none⟩ = some (.bool i)) := Lib.hid (by
                      have h := heap_alloc_new w2 (.cells #[.string x, .bool i] 63)
                      rw [hW3, heb] at h
                      constructor <;> (simp only [World.cell?, h]; rfl))
                    have HX0 := HX3.out.1
                    have HX1 := HX3.out.2
                    obtain ⟨d0, d1, df⟩ := patB_cells HP3.out
                    have hlt3 := lt_of_block HP3.out
                    have OW : Hid ((W3.drew.alloc (.cells #[.iface 63 (.agg #[.string x, .bool i])] 76)).ownsRow (w.heap.size + 1) 76 1 v acc.length (acc.map elV)) := Lib.hid (HO3.out.drew.alloc (.cells #[.iface 63 (.agg #[.string x, .bool i])] 76))
                    have HP4 : Hid (W3.drew.heap[w.heap.size]? = some (patB s v)) := Lib.hid HP3.out
                    have HO4 : Hid (W3.drew.ownsRow (w.heap.size + 1) 76 1 v acc.length (acc.map elV)) := Lib.hid HO3.out.drew
                    have HB4 : Hid (Below w.heap.size w W3.drew) := Lib.hid HB3.out.drew
                    have a1 : (W3.drew.alloc (.cells #[.iface 63 (.agg #[.string x, .bool i])] 76)).cell? ⟨w.heap.size, 1, none⟩ = some v := by rw [World.cell?_of_block (w := W3) (Below.heap_alloc W3.drew _ _ hlt3)]; exact d1
                    have g3 : Hid (acc.length + 1 ≤ maxLen) := Lib.hid (by unfold maxLen; have := HA.out; omega)
                    have g4 : Hid ((acc.length + 1) * 16 ≤ 140737488355328) := Lib.hid (by have := HA.out; omega)
                    have g5 : Hid (w.heap.size + 1 ≤ (W3.drew.alloc (.cells #[.iface 63 (.agg #[.string x, .bool i])] 76)).heap.size) := Lib.hid (by simp; omega)
                    go_wp2_with fail
                    go_region_law (refine step_append_own rfl (.tmp 88) (.tmp 91) 57 rfl (w.heap.size + 1) 76 i0 .nilIface 1 16 Tryd.underlying57 Hi.out Z0.out Z1.out Z2.out rfl (by decide) v acc.length (acc.map elV) (by simp [Act.eval]) OW.out ⟨W3.drew.heap.size, 0, none⟩ 1 1 [.iface 63 (.agg #[.string x, .bool i])] (by simp [Act.eval]) rfl (cell_one_new _ _ _) (by intro u hu; simp at hu; subst hu; rfl) g3.out g4.out g5.out ?_; intro v1 w1 hown1 hg1; obtain ⟨g, cap, rfl, k1, k2, Y1, Y2, Y3⟩ := pat_all HP4.out HO4.out HB4.out hg1 hown1; clear hown1 hg1)
                    all_goals go_wp2_with fail
                    all_goals go_roundw
                    all_goals first
                      | exact ⟨k + n, f', acc ++ [e], _, by have := HNM.out; omega, by go_num, Lib.hid (by have := HA.out; simp; omega), Lib.hid (by have := HF.out; omega), by rw [show s.size - m = k + n by have := HNM.out; omega] at HC2; exact HC2, Y1, Lib.hid (by rw [List.map_append, List.length_append, List.map_cons, List.map_nil, HV.out]; exact Y2.out), Y3⟩
                      | (simp [intOf]; omega)
                · have c91 : (((chars s).getD k 0 : Int) == 91) = false := by simp only [beq_eq_false_iff_ne, ne_eq]; omega
                  have HE : Hid (compF (chars s) = ([], k, 6)) := Lib.hid (by
                    have h := HC.out
                    rw [comp_bad _ _ _ hlc hn h63 h42 h91, chars_length] at h
                    rw [E.out, ← h]
                    show (if (6 : Nat) = 0 then _ else (([] : List El), s.size - (s.size - k), 6)) = _
                    rw [if_neg (by decide), show s.size - (s.size - k) = k by omega])
                  clear hn hlc h63 h42 h91
                  generalize (chars s).getD k 0 = c at *
                  go_wp2_with fail
                  refine (named_any _ hc256 _).mono ?_
                  rintro e2 w2 ⟨rfl, rfl⟩
                  rw [HN.out]
                  go_wp2_with fail
                  go_ret3
                  exact comp_none HE.out (by decide) HB.out
        · obtain rfl : k = s.size := by omega
          have hl : ¬ s.size < s.size := Nat.lt_irrefl _
          have HL : Hid (compF (chars s) = (acc, 0, 0)) := Lib.hid (by
            have h := HC.out
            rw [comp_end _ _ _ (by rw [chars_length]; omega)] at h
            rw [E.out, ← h]; rfl)
          clear hlt hk
          go_wp2_with fail
          go_ret3
          rw [HL.out]
          have hacc : acc = (compF (chars s)).1 := by rw [HL.out]
          refine ⟨⟨_, rfl, .inl ⟨rfl, ?_⟩⟩, HB.out⟩
          obtain ⟨A, cap, hA, hp⟩ := pat_done HP.out HO.out (by rw [hacc]; exact compF_small _) (by rw [hacc]; exact compF_ok _) (by rw [hacc]; exact compF_len _)
          exact ⟨_, A, cap, rfl, Nat.le_refl _, hA, hp⟩

end Go.Proofs.YtgnmanmlnbidfaaDoor
