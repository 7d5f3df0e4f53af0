/- Wildmat: the reference's Compile, by a walk through its text. -/
import Derived.Test.YtgnmanmlnbidfaaDoorRCls
import Derived.Great.BuildSlice
namespace Go.Proofs.YtgnmanmlnbidfaaDoor
open Go.RowKit

/-- A reference's pattern's own block. -/
def refB (s : ByteArray) (v : Value) : Obj := .cells #[.string s, v] 29 (0, 0)

theorem refB_cells {w : World} {b : Nat} {s : ByteArray} {v : Value} (h : w.heap[b]? = some (refB s v)) : w.cell? ⟨b, 0, none⟩ = some (.string s) ∧ w.cell? ⟨b, 1, none⟩ = some v ∧ w.frozen? ⟨b, 0, none⟩ = false ∧ w.frozen? ⟨b, 1, none⟩ = false := by
  simp [World.cell?, World.frozen?, h, refB]

theorem refB_store {w : World} {b : Nat} {s : ByteArray} {v v' : Value} (h : w.heap[b]? = some (refB s v)) : (w.setCell ⟨b, 1, none⟩ v').heap[b]? = some (refB s v') := by
  rw [heap_setCell_same w b 1 _ 29 v' h]
  simp [refB]
theorem refB_text {w : World} {b : Nat} {s s' : ByteArray} {v : Value} (h : w.heap[b]? = some (refB s v)) : (w.setCell ⟨b, 0, none⟩ (.string s')).heap[b]? = some (refB s' v) := by
  rw [heap_setCell_same w b 0 _ 29 _ h]
  simp [refB]

theorem res13 (tmps : Array Value) (w : World) (b : Nat) (s : ByteArray) (v v3 v4 : Value) (h2 : tmps[2]?.getD undef = .pointer (some ⟨b, 0, none⟩)) (h3 : tmps[3]?.getD undef = v3) (h4 : tmps[4]?.getD undef = v4) (h : w.heap[b]? = some (refB s v)) :
    (results Tryd.f13 tmps).run Tryd.prog w = .ok (.tuple #[.agg #[.string s, v], v3, v4]) w := by
  simp [results, Tryd.f13, h2, h3, h4, asAddr, run_loadVar_row (P := Tryd.prog) w b 29 29 #[.string s, v] (0, 0) _ h Tryd.underlying29 rfl (by kernel_rfl)]

theorem info70 : (Tryd.prog.info? 70).map (fun i => (i.zero, i.size, i.bytes)) = some (some (.agg Tryd.zeroCells70), 129, 129) := by kernel_rfl

/-- What Compile leaves. -/
def RCompPost (w : World) (R : List El × Nat × Nat) (e : Ending) (w' : World) : Prop :=
  (∃ txt A cap, e = .returned (.tuple #[.agg #[.string txt, .slice A R.1.length cap], .int .i64 (R.2.1 : Nat), .int .i64 (R.2.2 : Nat)]) ∧ IsRef w' w'.heap.size A R.1) ∧ Below w.heap.size w w'

/-- The same, and where the elements lie. -/
def RCompAt (w : World) (R : List El × Nat × Nat) (e : Ending) (w' : World) : Prop :=
  (∃ txt A cap, e = .returned (.tuple #[.agg #[.string txt, .slice A R.1.length cap], .int .i64 (R.2.1 : Nat), .int .i64 (R.2.2 : Nat)]) ∧ IsRef w' w'.heap.size A R.1 ∧ ∀ a, A = some a → w.heap.size ≤ a.block ∧ a.block < w'.heap.size) ∧ Below w.heap.size w w'

theorem rcomp_none {w w' : World} {R : List El × Nat × Nat} {a n : Nat} (h : R = ([], a, n)) (hB : Below w.heap.size w w') : RCompAt w R (.returned (.tuple #[.agg #[.string ⟨#[]⟩, .slice none 0 0], .int .i64 a, .int .i64 n])) w' := by
  subst h
  exact ⟨⟨_, _, _, rfl, .inl rfl, fun _ h => by cases h⟩, hB⟩

/-- One element more: what the append and the store leave. -/
theorem ref_all {B rb pb : Nat} {w wa w1 : World} {s : ByteArray} {v v1 : Value} {n : Nat} {xs ys : List Value} {o : Obj} (hrp : rb < pb) (hBr : B ≤ rb) (hp : wa.heap[pb]? = some (refB s v)) (hr : wa.heap[rb]? = some (refB ⟨#[]⟩ (.slice none 0 0))) (ho : wa.ownsRow (pb + 1) 70 129 v n xs) (hb : Below B w wa)
    (hg : (wa.alloc o).grownBy w1 v.ownBlock) (hown : w1.ownsRow (pb + 1) 70 129 v1 (n + 1) ys) :
    ∃ g cap, v1 = .slice (some ⟨g, 0, none⟩) (n + 1) cap ∧ w1.cell? ⟨pb, 1, none⟩ = some v ∧ w1.frozen? ⟨pb, 1, none⟩ = false ∧ Hid ((w1.setCell ⟨pb, 1, none⟩ (.slice (some ⟨g, 0, none⟩) (n + 1) cap)).heap[pb]? = some (refB s (.slice (some ⟨g, 0, none⟩) (n + 1) cap))) ∧
      Hid ((w1.setCell ⟨pb, 1, none⟩ (.slice (some ⟨g, 0, none⟩) (n + 1) cap)).heap[rb]? = some (refB ⟨#[]⟩ (.slice none 0 0))) ∧
      Hid ((w1.setCell ⟨pb, 1, none⟩ (.slice (some ⟨g, 0, none⟩) (n + 1) cap)).ownsRow (pb + 1) 70 129 (.slice (some ⟨g, 0, none⟩) (n + 1) cap) (n + 1) ys) ∧ Hid (Below B w (w1.setCell ⟨pb, 1, none⟩ (.slice (some ⟨g, 0, none⟩) (n + 1) cap))) := by
  have hlt := lt_of_block hp
  have HP1 : w1.heap[pb]? = some (refB s v) := by
    rw [hg.block _ (by simp; omega) (fun e => by have := (ho.lt _ e.symm).1; omega), Below.heap_alloc _ _ _ hlt]
    exact hp
  have HR1 : w1.heap[rb]? = some (refB ⟨#[]⟩ (.slice none 0 0)) := by
    rw [hg.block _ (by simp; omega) (fun e => by have := (ho.lt _ e.symm).1; omega), Below.heap_alloc _ _ _ (by omega)]
    exact hr
  have HB1 : Below B w w1 := (hb.alloc (by omega) _).grown hg (by simp; omega) (fun k e => by have := (ho.lt _ e).1; omega)
  obtain ⟨_, k1, _, k2⟩ := refB_cells HP1
  have hform : ∃ g cap, v1 = .slice (some ⟨g, 0, none⟩) (n + 1) cap := by
    rcases hown.2 with ⟨_, h⟩ | ⟨g, cap, cur, hv, _⟩
    · omega
    · exact ⟨g, cap, hv⟩
  obtain ⟨g, cap, rfl⟩ := hform
  refine ⟨g, cap, rfl, k1, k2, Lib.hid (refB_store HP1), Lib.hid (by rw [Below.heap_setCell _ _ _ _ (by simp; omega)]; exact HR1), Lib.hid (hown.kept (grown_setCell w1 pb 1 _) ?_), Lib.hid (HB1.setCell (p := ⟨pb, 1, none⟩) (by simp; omega) _)⟩
  right
  intro e
  have := (hown.lt g rfl).1
  have e2 : g = pb := Option.some.inj e
  omega

/-- A pattern whose elements are a row of the call's own. -/
theorem ref_done {w : World} {base : Nat} {v : Value} {L : List El} (ho : w.ownsRow base 70 129 v L.length (L.flatMap eCells)) :
    ∃ A cap, v = .slice A L.length cap ∧ IsRef w w.heap.size A L ∧ ∀ a, A = some a → base ≤ a.block ∧ a.block < w.heap.size := by
  rcases ho.2 with ⟨rfl, h⟩ | ⟨g, cap, cur, rfl, hg, hh, _, _, _, _⟩
  · exact ⟨none, 0, by rw [h], .inl (by rw [List.eq_nil_of_length_eq_zero h]; rfl), fun _ h => by cases h⟩
  · refine ⟨_, cap, rfl, .inr ⟨g, 0, rfl, lt_of_block hh, fun i hi => ?_⟩, fun a h => by cases h; exact ⟨hg, lt_of_block hh⟩⟩
    rw [Nat.zero_add]
    have h := ho.cells rfl i ((L.flatMap eCells).getD i undef) (by rw [List.getD_eq_getElem?_getD, List.getElem?_eq_getElem hi]; rfl)
    have hadd : ∀ j, (⟨g, 0, none⟩ : Addr).add j = ⟨g, 0 + j, none⟩ := fun j => by unfold Addr.add; split <;> simp_all
    rw [hadd, Nat.zero_add] at h
    exact h

/-- A store into the element under way leaves all else. -/
theorem keep4 {w W3 : World} {s : ByteArray} {v u : Value} {n i xb : Nat} {xs : List Value} (hpx : w.heap.size + 1 < xb) (hp : W3.heap[w.heap.size + 1]? = some (refB s v)) (hr : W3.heap[w.heap.size]? = some (refB ⟨#[]⟩ (.slice none 0 0))) (ho : W3.ownsRow (w.heap.size + 2) 70 129 v n xs) (hv : v.ownBlock = none ∨ v.ownBlock ≠ some xb) (hb : Below w.heap.size w W3) :
    Hid ((W3.setCell ⟨xb, i, none⟩ u).heap[w.heap.size + 1]? = some (refB s v)) ∧ Hid ((W3.setCell ⟨xb, i, none⟩ u).heap[w.heap.size]? = some (refB ⟨#[]⟩ (.slice none 0 0))) ∧ Hid ((W3.setCell ⟨xb, i, none⟩ u).ownsRow (w.heap.size + 2) 70 129 v n xs) ∧ Hid (Below w.heap.size w (W3.setCell ⟨xb, i, none⟩ u)) :=
  ⟨Lib.hid (by rw [Below.heap_setCell _ _ _ _ (by simp; omega)]; exact hp), Lib.hid (by rw [Below.heap_setCell _ _ _ _ (by simp; omega)]; exact hr), Lib.hid (ho.kept (grown_setCell W3 xb i u) hv), Lib.hid (hb.setCell (p := ⟨xb, i, none⟩) (by simp; omega) _)⟩

/-- What a call's element leaves, stored in a block of its own. -/
theorem keep5 {w W3 w2 : World} {s : ByteArray} {v : Value} {n : Nat} {xs : List Value} {g : Nat → Bool} (hp : W3.heap[w.heap.size + 1]? = some (refB s v)) (hr : W3.heap[w.heap.size]? = some (refB ⟨#[]⟩ (.slice none 0 0))) (ho : W3.ownsRow (w.heap.size + 2) 70 129 v n xs) (hb : Below w.heap.size w W3) (b2 : Below W3.heap.size W3 w2) :
    Hid (((w2.alloc (.cells Tryd.zeroCells70 70)).setRow w2.heap.size (eA false g)).heap[w.heap.size + 1]? = some (refB s v)) ∧ Hid (((w2.alloc (.cells Tryd.zeroCells70 70)).setRow w2.heap.size (eA false g)).heap[w.heap.size]? = some (refB ⟨#[]⟩ (.slice none 0 0))) ∧ Hid (((w2.alloc (.cells Tryd.zeroCells70 70)).setRow w2.heap.size (eA false g)).ownsRow (w.heap.size + 2) 70 129 v n xs) ∧ Hid (Below w.heap.size w ((w2.alloc (.cells Tryd.zeroCells70 70)).setRow w2.heap.size (eA false g))) ∧ Hid (((w2.alloc (.cells Tryd.zeroCells70 70)).setRow w2.heap.size (eA false g)).heap[w2.heap.size]? = some (eB false g)) := by
  have h1 := lt_of_block hp
  have h2 := lt_of_block hr
  have h3 := b2.size
  have hgrow : ∀ k, k < w2.heap.size → ((w2.alloc (.cells Tryd.zeroCells70 70)).setRow w2.heap.size (eA false g)).heap[k]? = w2.heap[k]? := fun k hk => by
    rw [setRow_other _ _ _ _ (by omega), Below.heap_alloc _ _ _ hk]
  have hbb : Below w2.heap.size w2 ((w2.alloc (.cells Tryd.zeroCells70 70)).setRow w2.heap.size (eA false g)) := below_row ((Below.refl _ _).alloc (Nat.le_refl _) _) (Nat.le_refl _) _
  have hB := b2.trans (hbb.mono h3)
  refine ⟨Lib.hid ((hB.block _ h1).trans hp), Lib.hid ((hB.block _ h2).trans hr), Lib.hid (ho.kept (grown_of_below hB none) (by cases v.ownBlock <;> simp)), Lib.hid (hb.trans (hB.mono hb.size)), Lib.hid (eB_row (eB_new w2))⟩

theorem flat_more (acc : List El) (e : El) : (acc ++ [e]).flatMap eCells = acc.flatMap eCells ++ eCells e := by simp [List.flatMap_append]

theorem fill_eA (st : Bool) (f : Nat → Bool) (base : Array Value) (hb : base.size = 129) : Instr.fill (fun i => some (i * 129, 129)) base [(0, .agg (eA st f))] = some (eA st f) := by
  have h := Great.fill_whole (s := 129) (by omega) [.agg (eA st f)] base (by intro v hv; rw [List.mem_singleton.1 hv]; exact eA_size st f) (by simp [hb])
  simpa [Value.cells] using h

theorem cell_row_new (w : World) (l : List Value) (t : TypeId) : ∀ j u, l[j]? = some u → (w.alloc (.cells l.toArray t)).cell? ((⟨w.heap.size, 0, none⟩ : Addr).add j) = some u := by
  intro j u hj
  have hadd : (⟨w.heap.size, 0, none⟩ : Addr).add j = ⟨w.heap.size, 0 + j, none⟩ := by unfold Addr.add; split <;> simp_all
  rw [hadd, Nat.zero_add]
  simp only [World.cell?, heap_alloc_new]
  simpa using hj

theorem eCells_one (e : El) : ∀ u ∈ eCells e, u.oneCell' = true := by
  intro u hu
  simp only [eCells, List.mem_cons, List.mem_map] at hu
  rcases hu with rfl | ⟨c, _, rfl⟩ <;> rfl

theorem eB_congr {st : Bool} {f g : Nat → Bool} (h : ∀ c, c < 128 → f c = g c) : eB st f = eB st g := by
  unfold eB
  have e : (List.range 128).map (fun c => Value.bool (f c)) = (List.range 128).map (fun c => Value.bool (g c)) := by
    apply List.map_congr_left
    intro c hc
    rw [h c (by simpa using hc)]
  rw [e]

theorem eB_mark {w : World} {b : Nat} {st : Bool} {f : Nat → Bool} (h : w.heap[b]? = some (eB st f)) (v : Bool) : (w.setCell ⟨b, 0, none⟩ (.bool v)).heap[b]? = some (eB v f) := by
  rw [heap_setCell_same w b 0 _ 70 _ h]
  simp [eB]

/-- The name characters below a number. -/
def upF (k x : Nat) : Bool := decide (x < k) && namedB x
theorem up_zero : upF 0 = setC [] := by funext x; simp [upF, setC]
theorem eB_up {w : World} {b : Nat} {st : Bool} {k : Nat} (h : w.heap[b]? = some (eB st (upF k))) (hc : k < 128) : (w.setCell ⟨b, 1 + k, none⟩ (.bool (namedB k))).heap[b]? = some (eB st (upF (k + 1))) := by
  rw [eB_set h hc _]
  congr 2
  funext x
  simp only [upF]
  by_cases e : x = k
  · subst e; simp
  · rw [if_neg e]
    have e2 : decide (x < k) = decide (x < k + 1) := by
      rw [Bool.eq_iff_iff, decide_eq_true_eq, decide_eq_true_eq]; omega
    rw [e2]

theorem eB_any : eB false (upF 128) = eB (El.cls [] true).isStar (El.cls [] true).bit := eB_congr fun c hc => by
  simp [upF, El.bit, El.has, hc]
theorem eB_one (c : Nat) : eB false (setC [c]) = eB (El.one c).isStar (El.one c).bit := eB_congr fun x _ => by
  show [c].contains x = (c == x)
  simp only [List.contains_cons, List.contains_nil, Bool.or_false]
  rw [Bool.eq_iff_iff, beq_iff_eq, beq_iff_eq]
  exact eq_comm
theorem eB_st : eB true (setC []) = eB El.star.isStar El.star.bit := eB_congr fun _ _ => rfl

set_option maxRecDepth 100000 in
set_option maxHeartbeats 8000000 in
theorem RCompile_at (s : ByteArray) (w : World) (hs0 : s.size ≤ 100000) : Calls Tryd.prog 13 #[.string s] w (RCompAt w (compF (chars s))) := by
  obtain ⟨W0, hW0⟩ : ∃ W0, w.alloc (.cells #[.string ⟨#[]⟩, .slice none 0 0] 29) = W0 := ⟨_, rfl⟩
  have HR00 : Hid (W0.heap[w.heap.size]? = some (refB ⟨#[]⟩ (.slice none 0 0))) := Lib.hid (by rw [← hW0]; exact heap_alloc_new w _)
  have HB00 : Hid (Below w.heap.size w W0) := Lib.hid (by rw [← hW0]; exact (Below.refl _ _).alloc (Nat.le_refl _) _)
  have HW0 := Lib.hid hW0
  clear hW0
  by_cases h0 : s.size = 0
  · have E : Hid (compF (chars s) = ([], 0, 4)) := Lib.hid (by rw [compF, chars_length, if_pos h0])
    obtain rfl : s = ByteArray.empty := ByteArray.ext (Array.eq_empty_of_size_eq_zero h0)
    clear h0 hs0
    go_enter Tryd.func13, Tryd.ntmps13
    go_wp2_with fail
    refine bodyPost_ret (res13 _ _ w.heap.size _ _ _ _ rfl rfl rfl (heap_alloc_new w _)) rfl (rcomp_none E.out (by rw [HW0.out]; exact HB00.out))
  · have hemp : s.toList.isEmpty = false := by rw [isEmpty_dec, decide_eq_false h0]
    by_cases h80 : 80 < s.size
    · have E : Hid (compF (chars s) = ([], 80, 5)) := Lib.hid (by rw [compF, chars_length, if_neg h0, if_pos h80])
      have hd : decide ((80 : Int) < (s.size : Int)) = true := decide_eq_true (by omega)
      clear h0 h80
      go_enter Tryd.func13, Tryd.ntmps13
      go_wp2_with fail
      refine bodyPost_ret (res13 _ _ w.heap.size _ _ _ _ rfl rfl rfl (heap_alloc_new w _)) rfl (rcomp_none E.out (by rw [HW0.out]; exact HB00.out))
    · have hs : s.size ≤ 100 := by omega
      clear hs0
      have hd : decide ((80 : Int) < (s.size : Int)) = false := decide_eq_false (by omega)
      obtain ⟨R, hR⟩ : ∃ R, compGo (s.size + 1) (chars s) [] = R := ⟨_, rfl⟩
      have E : Hid (compF (chars s) = if R.2.2 = 0 then (R.1, 0, 0) else ([], s.size - R.2.1, R.2.2)) := Lib.hid (by rw [compF, chars_length, if_neg h0, if_neg h80, hR])
      have HRR := Lib.hid hR
      clear hR h0
      obtain ⟨i0, hi, hz0, hz1, hz2⟩ := info_parts info70
      have Hi := Lib.hid hi
      obtain ⟨z, hz⟩ : ∃ z, Value.agg Tryd.zeroCells70 = z := ⟨_, rfl⟩
      have HZS : Hid (z.cells.size = 129) := Lib.hid (by rw [← hz]; kernel_rfl)
      rw [hz] at hz0
      have Z0 := Lib.hid hz0
      have Z1 := Lib.hid hz1
      have Z2 := Lib.hid hz2
      have HSM : Hid (¬ 1 * i0.size > 2 ^ 24) := Lib.hid (by rw [hz1]; omega)
      have HPS : Hid (¬ 1 * i0.size = 0) := Lib.hid (by rw [hz1]; omega)
      have HFILL : Hid (∀ (st : Bool) (g : Nat → Bool) (parts : List (Nat × Value)), parts = [(0, .agg (eA st g))] → Instr.fill (fun i => some (i * i0.size, i0.size)) ((Array.range (1 * i0.size)).map (z.cells[· % z.cells.size]!)) parts = some (eA st g)) := Lib.hid (fun st g parts hp => by rw [hp, hz1]; exact fill_eA _ _ _ (by simp))
      clear hi hz0 hz1 hz2 hz
      go_enter Tryd.func13, Tryd.ntmps13
      go_wp2_with fail
      rw [HW0.out]
      obtain ⟨W, hW⟩ : ∃ W, W0.alloc (.cells #[.string s, .slice none 0 0] 29) = W := ⟨_, rfl⟩
      have hW0s : W0.heap.size = w.heap.size + 1 := by rw [← HW0.out]; simp
      have HR0 : Hid (W.heap[w.heap.size]? = some (refB ⟨#[]⟩ (.slice none 0 0))) := Lib.hid (by rw [← hW, Below.heap_alloc _ _ _ (by omega)]; exact HR00.out)
      have HP0 : Hid (W.heap[w.heap.size + 1]? = some (refB s (.slice none 0 0))) := Lib.hid (by rw [← hW, ← hW0s]; exact heap_alloc_new W0 _)
      have HB0 : Hid (Below w.heap.size w W) := Lib.hid (by rw [← hW]; exact HB00.out.alloc (by omega) _)
      have HO0 : Hid (W.ownsRow (w.heap.size + 2) 70 129 (.slice none 0 0) 0 []) := Lib.hid (World.ownsRow_nil _ _ _ _)
      rw [hW]
      clear hW hW0s HW0 HR00 HB00
      go_loopw [6] (fun va wr => ∃ (k f : Nat) (acc : List El) (v : Value), k ≤ s.size ∧ va = .int .i64 k ∧ Hid (acc.length ≤ k) ∧ Hid (s.size + 1 ≤ k + f) ∧ Hid (compGo f ((chars s).drop k) acc = R) ∧ Hid (wr.heap[w.heap.size + 1]? = some (refB s v)) ∧ Hid (wr.heap[w.heap.size]? = some (refB ⟨#[]⟩ (.slice none 0 0))) ∧ Hid (wr.ownsRow (w.heap.size + 2) 70 129 v acc.length (acc.flatMap eCells)) ∧ Hid (Below w.heap.size w wr)) (fun va _ => (s.size - intOf va).toNat)
      case atStart => exact ⟨0, s.size + 1, [], .slice none 0 0, by omega, rfl, Lib.hid (by simp), Lib.hid (by omega), Lib.hid (by rw [List.drop_zero]; exact HRR.out), HP0, HR0, HO0, HB0⟩
      case round =>
        obtain ⟨k, f, acc, v, hk, rfl, HA, HF, HC, HP, HR, HO, HB⟩ := hrel
        by_cases hlt : k < s.size
        · have hlc : Hid (k < (chars s).length) := Lib.hid (by rw [chars_length]; exact hlt)
          have hkd : decide ((k : Int) < (s.size : Int)) = true := decide_eq_true (by omega)
          have hix := fun W => idx_at s k hlt (k : Int) rfl W
          have hc256 := chars_lt s k
          obtain ⟨f', rfl⟩ : ∃ f', f = f' + 1 := ⟨f - 1, by have := HF.out; omega⟩
          obtain ⟨c, hc⟩ : ∃ c, (chars s).getD k 0 = c := ⟨_, rfl⟩
          rw [hc] at hix hc256
          have HCH := Lib.hid hc
          clear hc
          go_upto_block 2 with fail
          obtain ⟨xb, hxb⟩ : ∃ xb, wr.heap.size = xb := ⟨_, rfl⟩
          obtain ⟨W3, hW3⟩ : ∃ W3, wr.alloc (.cells Tryd.zeroCells70 70) = W3 := ⟨_, rfl⟩
          have hpx : w.heap.size + 1 < xb := by rw [← hxb]; exact lt_of_block HP.out
          have HX3 : Hid (W3.heap[xb]? = some (eB false (setC []))) := Lib.hid (by rw [← hW3, ← hxb]; exact eB_new wr)
          have HP3 : Hid (W3.heap[w.heap.size + 1]? = some (refB s v)) := Lib.hid (by rw [← hW3, Below.heap_alloc _ _ _ (lt_of_block HP.out)]; exact HP.out)
          have HR3 : Hid (W3.heap[w.heap.size]? = some (refB ⟨#[]⟩ (.slice none 0 0))) := Lib.hid (by rw [← hW3, Below.heap_alloc _ _ _ (lt_of_block HR.out)]; exact HR.out)
          have HO3 : Hid (W3.ownsRow (w.heap.size + 2) 70 129 v acc.length (acc.flatMap eCells)) := Lib.hid (by rw [← hW3]; exact HO.out.alloc _)
          have HB3 : Hid (Below w.heap.size w W3) := Lib.hid (by rw [← hW3]; exact HB.out.alloc HB.out.size _)
          have HVX : Hid (v.ownBlock = none ∨ v.ownBlock ≠ some xb) := Lib.hid (by
            cases hv : v.ownBlock with
            | none => exact .inl rfl
            | some g =>
              right
              intro e
              have := (HO.out.lt g hv).2
              have e2 : g = xb := Option.some.inj e
              omega)
          rw [hW3, hxb]
          clear hW3 HP HR HO HB
          go_cut [6] (fun v6 wx => v6 = .int .i64 k ∧ ∃ e : El, Hid (compGo f' ((chars s).drop (k + 1)) (acc ++ [e]) = R) ∧ Hid (wx.heap[xb]? = some (eB e.isStar e.bit)) ∧ Hid (wx.heap[w.heap.size + 1]? = some (refB s v)) ∧ Hid (wx.heap[w.heap.size]? = some (refB ⟨#[]⟩ (.slice none 0 0))) ∧ Hid (wx.ownsRow (w.heap.size + 2) 70 129 v acc.length (acc.flatMap eCells)) ∧ Hid (Below w.heap.size w wx))
          case first =>
            by_cases h42 : c = 42
            · subst h42
              have HC2 : Hid (compGo f' ((chars s).drop (k + 1)) (acc ++ [.star]) = R) := Lib.hid (by rw [← HC.out]; exact (comp_star _ _ _ hlc.out HCH.out).symm)
              obtain ⟨s0, s1⟩ := eB_star HX3.out
              have HK4 := keep4 (i := 0) (u := .bool true) hpx HP3.out HR3.out HO3.out HVX.out HB3.out
              obtain ⟨K1, K2, K3, K4⟩ := HK4
              have HX4 : Hid ((W3.setCell ⟨xb, 0, none⟩ (.bool true)).heap[xb]? = some (eB El.star.isStar El.star.bit)) := Lib.hid (by rw [← eB_st]; exact eB_mark HX3.out true)
              go_wp2_with fail
              go_meet
              case rel => exact ⟨rfl, .star, HC2, HX4, K1, K2, K3, K4⟩
            · have n42 : ((c : Int) == 42) = false := by rw [beq_eq_false_iff_ne]; omega
              by_cases h63 : c = 63
              · subst h63
                have HC2 : Hid (compGo f' ((chars s).drop (k + 1)) (acc ++ [.cls [] true]) = R) := Lib.hid (by rw [← HC.out]; exact (comp_any _ _ _ hlc.out HCH.out).symm)
                go_wp2_with fail
                go_loopw [8] (fun vi wq => ∃ i : Nat, i ≤ 128 ∧ vi = .int .i64 i ∧ Hid (wq.heap[xb]? = some (eB false (upF i))) ∧ Hid (wq.heap[w.heap.size + 1]? = some (refB s v)) ∧ Hid (wq.heap[w.heap.size]? = some (refB ⟨#[]⟩ (.slice none 0 0))) ∧ Hid (wq.ownsRow (w.heap.size + 2) 70 129 v acc.length (acc.flatMap eCells)) ∧ Hid (Below w.heap.size w wq)) (fun vi _ => (128 - intOf vi).toNat)
                case atStart => exact ⟨0, by omega, rfl, Lib.hid (by rw [up_zero]; exact HX3.out), HP3, HR3, HO3, HB3⟩
                case round =>
                  clear HX3 HP3 HR3 HO3 HB3
                  obtain ⟨i, hi, rfl, HX3, HP3, HR3, HO3, HB3⟩ := hrel
                  by_cases hi1 : i < 128
                  · have hii : (i : Int) < 128 := by omega
                    obtain ⟨cc, ff⟩ := eB_bit HX3.out hi1
                    have HSET := Lib.hid (eB_up HX3.out hi1)
                    have HK4 := keep4 (i := 1 + i) (u := .bool (namedB i)) hpx HP3.out HR3.out HO3.out HVX.out HB3.out
                    obtain ⟨K1, K2, K3, K4⟩ := HK4
                    go_wp2_with fail
                    refine (Char_any i _).mono ?_
                    rintro e w2 ⟨rfl, rfl⟩
                    generalize namedB i = nm at *
                    go_wp2_with fail
                    go_roundw
                    case measure => simp [intOf]; omega
                    case rel => exact ⟨i + 1, by omega, by go_num, HSET, K1, K2, K3, K4⟩
                  · obtain rfl : i = 128 := by omega
                    clear hi hi1
                    go_wp2_with fail
                    go_meet
                    case rel => exact ⟨rfl, .cls [] true, HC2, Lib.hid (by rw [← eB_any]; exact HX3.out), HP3, HR3, HO3, HB3⟩
              · have n63 : ((c : Int) == 63) = false := by rw [beq_eq_false_iff_ne]; omega
                by_cases h91 : c = 91
                · subst h91
                  have HRC := Lib.hid (RClass_any s k W3 hlt hs)
                  cases hcl : classF ((chars s).drop (k + 1)) with
                  | none =>
                    have HE : Hid (compF (chars s) = ([], k, 3)) := Lib.hid (by
                      have h := HC.out
                      rw [comp_class_no _ _ _ hlc.out HCH.out hcl, chars_length] at h
                      rw [E.out, ← h]
                      show (if (3 : Nat) = 0 then _ else (([] : List El), s.size - (s.size - k), 3)) = _
                      rw [if_neg (by decide), show s.size - (s.size - k) = k by omega])
                    rw [hcl] at HRC
                    clear hcl
                    go_wp2_with fail
                    refine HRC.out.mono ?_
                    rintro e2 w2 ⟨⟨g, nx, rfl, hans⟩, b2⟩
                    obtain rfl : nx = -1 := hans.out
                    obtain ⟨HP5, HR5, HO5, HB5, HY5⟩ := keep5 (g := g) HP3.out HR3.out HO3.out HB3.out b2
                    obtain ⟨r0, r1, g0, g1⟩ := refB_cells HR5.out
                    have HNW := Lib.hid (eB_new w2)
                    clear b2 hans
                    go_wp2_with (first
                      | (refine wpList_store_row rfl 70 (.tmp 9) (.tmp 56) rfl w2.heap.size (eA false g) rfl rfl 70 (eA false fun _ => false) HNW.out (i70 _ _) (by rw [eA_size, eA_size]) (eA_one _ _) ?_))
                    refine bodyPost_ret (res13 _ _ w.heap.size _ _ _ _ rfl rfl rfl (refB_store (v' := .slice none 0 0) (refB_text (s' := ⟨#[]⟩) HR5.out))) rfl (rcomp_none HE.out ((HB5.out.setCell (p := ⟨w.heap.size, 0, none⟩) (Nat.le_refl _) _).setCell (p := ⟨w.heap.size, 1, none⟩) (Nat.le_refl _) _))
                  | some q =>
                    obtain ⟨e, m⟩ := q
                    have hm := class_len hcl
                    rw [List.length_drop, chars_length] at hm
                    have HC2 : Hid (compGo f' ((chars s).drop (s.size - m)) (acc ++ [e]) = R) := Lib.hid (by rw [← HC.out, ← chars_length]; exact (comp_class _ _ _ hlc.out HCH.out hcl).symm)
                    rw [hcl] at HRC
                    clear hcl
                    go_wp2_with fail
                    refine HRC.out.mono ?_
                    rintro e2 w2 ⟨⟨g, nx, rfl, hans⟩, b2⟩
                    obtain ⟨hnx, hmn, hcells⟩ := hans.out
                    obtain ⟨nn, hnn⟩ : ∃ nn, s.size - m = nn := ⟨_, rfl⟩
                    rw [hnn] at hnx HC2
                    have hnn1 : k + 1 ≤ nn ∧ nn ≤ s.size := by omega
                    subst hnx
                    have HEA := Lib.hid hcells
                    obtain ⟨HP5, HR5, HO5, HB5, HY5⟩ := keep5 (g := g) HP3.out HR3.out HO3.out HB3.out b2
                    have HNW := Lib.hid (eB_new w2)
                    clear b2 hans hcells hmn hnn hm
                    obtain ⟨_, c1, _, f1⟩ := refB_cells HP5.out
                    obtain ⟨W5, hW5⟩ : ∃ W5, (w2.alloc (.cells Tryd.zeroCells70 70)).setRow w2.heap.size (eA false g) = W5 := ⟨_, rfl⟩
                    rw [hW5] at HP5 HR5 HO5 HB5 HY5 c1 f1
                    have OW : Hid ((W5.alloc (.cells (eA false g) 70)).ownsRow (w.heap.size + 2) 70 129 v acc.length (acc.flatMap eCells)) := Lib.hid (HO5.out.alloc _)
                    have hnl : ¬ (nn : Int) < 0 := by omega
                    go_wp2_with (first
                      | (refine wpList_store_row rfl 70 (.tmp 9) (.tmp 56) rfl w2.heap.size (eA false g) rfl rfl 70 (eA false fun _ => false) HNW.out (i70 _ _) (by rw [eA_size, eA_size]) (eA_one _ _) ?_; rw [hW5])
                      | (refine wpList_load_row rfl 70 (.tmp 9) rfl w2.heap.size rfl 70 (eA false g) (0, 0) _ HY5.out Tryd.underlying70 rfl (i70 _ _) ?_)
                      | (refine wpList_buildSlice rfl 27 70 1 #[(0, .tmp 64)] rfl (eA false g) i0 z Tryd.underlying27 Hi.out Z0.out HSM.out HPS.out (HFILL.out false g _ (by rw [Array.toList_map]; rfl)) ?_)
                      | (at_builtin; refine wpList_append_own _ rfl _ _ 27 rfl (w.heap.size + 2) 70 i0 z 129 129 Tryd.underlying27 Hi.out Z0.out Z1.out Z2.out HZS.out (by decide) v acc.length (acc.flatMap eCells) rfl OW.out ⟨W5.heap.size, 0, none⟩ 1 1 (eCells e) rfl (by rw [eCells_len]) ?c1b ?c2b ?c3b ?c4b ?c5b ?_))
                    case c1b => rw [HEA.out]; exact cell_row_new _ _ _
                    case c2b => exact eCells_one e
                    case c3b => unfold maxLen; have := HA.out; omega
                    case c4b => have := HA.out; omega
                    case c5b => have := lt_of_block HP5.out; simp; omega
                    intro v1 w1 hown1 hg1 _
                    obtain ⟨g2, cap, rfl, k1, k2, Y1, Y2, Y3, Y4⟩ := ref_all (Nat.lt_succ_self _) (Nat.le_refl _) HP5.out HR5.out HO5.out HB5.out hg1 hown1
                    clear hown1 hg1
                    go_wp2_with fail
                    go_roundw
                    case measure => simp [intOf]; omega
                    case rel => exact ⟨nn, f', acc ++ [e], _, by omega, rfl, Lib.hid (by have := HA.out; simp; omega), Lib.hid (by have := HF.out; omega), HC2, Y1, Y2, Lib.hid (by rw [flat_more, List.length_append]; exact Y3.out), Y4⟩
                · have n91 : ((c : Int) == 91) = false := by rw [beq_eq_false_iff_ne]; omega
                  obtain ⟨nm, hnm⟩ : ∃ nm, namedB c = nm := ⟨_, rfl⟩
                  go_wp2_with fail
                  refine (Char_any c _).mono ?_
                  rintro e w2 ⟨rfl, rfl⟩
                  rw [hnm]
                  cases nm with
                  | true =>
                    have hc128 := named_lt hnm
                    have hci : (c : Int) < 128 := by omega
                    have HC2 : Hid (compGo f' ((chars s).drop (k + 1)) (acc ++ [.one c]) = R) := Lib.hid (by
                      have h := comp_named f' (chars s) acc hlc.out (by rw [HCH.out]; exact hnm)
                      rw [HCH.out] at h
                      rw [← HC.out]; exact h.symm)
                    obtain ⟨cc, ff⟩ := eB_bit HX3.out hc128
                    have HSET := Lib.hid (eB_add HX3.out hc128)
                    have HK4 := keep4 (i := 1 + c) (u := .bool true) hpx HP3.out HR3.out HO3.out HVX.out HB3.out
                    obtain ⟨K1, K2, K3, K4⟩ := HK4
                    clear hnm
                    go_wp2_with fail
                    go_meet
                    case rel => exact ⟨rfl, .one c, HC2, Lib.hid (by rw [← eB_one]; exact HSET.out), K1, K2, K3, K4⟩
                  | false =>
                    have HE : Hid (compF (chars s) = ([], k, 6)) := Lib.hid (by
                      have h := HC.out
                      rw [comp_bad _ _ _ hlc.out (by rw [HCH.out]; exact hnm) (by rw [HCH.out]; exact h63) (by rw [HCH.out]; exact h42) (by rw [HCH.out]; exact h91), chars_length] at h
                      rw [E.out, ← h]
                      show (if (6 : Nat) = 0 then _ else (([] : List El), s.size - (s.size - k), 6)) = _
                      rw [if_neg (by decide), show s.size - (s.size - k) = k by omega])
                    obtain ⟨r0, r1, g0, g1⟩ := refB_cells HR3.out
                    clear hnm
                    go_wp2_with fail
                    refine bodyPost_ret (res13 _ _ w.heap.size _ _ _ _ rfl rfl rfl (refB_store (v' := .slice none 0 0) (refB_text (s' := ⟨#[]⟩) HR3.out))) rfl (rcomp_none HE.out ((HB3.out.setCell (p := ⟨w.heap.size, 0, none⟩) (Nat.le_refl _) _).setCell (p := ⟨w.heap.size, 1, none⟩) (Nat.le_refl _) _))
          case rest =>
            obtain ⟨rfl, e, HCN, HX, HP, HR, HO, HB⟩ := hcut
            obtain ⟨_, c1, _, f1⟩ := refB_cells HP.out
            have HEA : Hid (eA e.isStar e.bit = (eCells e).toArray) := Lib.hid rfl
            obtain ⟨eb, heb⟩ : ∃ eb, e.bit = eb := ⟨_, rfl⟩
            obtain ⟨es, hes⟩ : ∃ es, e.isStar = es := ⟨_, rfl⟩
            rw [heb, hes] at HX HEA
            clear heb hes
            have OW : Hid ((wc.alloc (.cells (eA es eb) 70)).ownsRow (w.heap.size + 2) 70 129 v acc.length (acc.flatMap eCells)) := Lib.hid (HO.out.alloc _)
            go_wp2_with (first
              | (refine wpList_load_row rfl 70 (.tmp 7) rfl xb rfl 70 (eA es eb) (0, 0) _ HX.out Tryd.underlying70 rfl (i70 _ _) ?_)
              | (refine wpList_buildSlice rfl 27 70 1 #[(0, .tmp 81)] rfl (eA es eb) i0 z Tryd.underlying27 Hi.out Z0.out HSM.out HPS.out (HFILL.out es eb _ (by rw [Array.toList_map]; rfl)) ?_)
              | (at_builtin; refine wpList_append_own _ rfl _ _ 27 rfl (w.heap.size + 2) 70 i0 z 129 129 Tryd.underlying27 Hi.out Z0.out Z1.out Z2.out HZS.out (by decide) v acc.length (acc.flatMap eCells) rfl OW.out ⟨wc.heap.size, 0, none⟩ 1 1 (eCells e) rfl (by rw [eCells_len]) ?c1a ?c2a ?c3a ?c4a ?c5a ?_))
            case c1a => rw [HEA.out]; exact cell_row_new _ _ _
            case c2a => exact eCells_one e
            case c3a => unfold maxLen; have := HA.out; omega
            case c4a => have := HA.out; omega
            case c5a => have := lt_of_block HP.out; simp; omega
            intro v1 w1 hown1 hg1 _
            obtain ⟨g, cap, rfl, k1, k2, Y1, Y2, Y3, Y4⟩ := ref_all (Nat.lt_succ_self _) (Nat.le_refl _) HP.out HR.out HO.out HB.out hg1 hown1
            clear hown1 hg1
            go_wp2_with fail
            go_roundw
            case measure => simp [intOf]; omega
            case rel => exact ⟨k + 1, f', acc ++ [e], _, by omega, by go_num, Lib.hid (by have := HA.out; simp; omega), Lib.hid (by have := HF.out; omega), HCN, Y1, Y2, Lib.hid (by rw [flat_more, List.length_append]; exact Y3.out), Y4⟩
        · obtain rfl : k = s.size := by omega
          have hkd : decide ((s.size : Int) < (s.size : Int)) = false := decide_eq_false (by omega)
          have hkn : ¬ s.size < s.size := by omega
          have HL : Hid (compF (chars s) = (acc, 0, 0)) := Lib.hid (by
            have h := HC.out
            rw [comp_end _ _ _ (by rw [chars_length]; omega)] at h
            rw [E.out, ← h]; rfl)
          obtain ⟨A, cap, rfl, HREF, _⟩ := ref_done HO.out
          obtain ⟨c0, c1, f0, f1⟩ := refB_cells HP.out
          obtain ⟨r0, r1, g0, g1⟩ := refB_cells HR.out
          have HRF := Lib.hid HREF
          clear hlt hk HREF
          go_wp2_with fail
          rw [HL.out]
          have HBE := (HB.out.setCell (p := ⟨w.heap.size, 0, none⟩) (Nat.le_refl _) (.string s)).setCell (p := ⟨w.heap.size, 1, none⟩) (Nat.le_refl _) (.slice A acc.length cap)
          have hne : (Value.slice A acc.length cap).ownBlock = none ∨ (Value.slice A acc.length cap).ownBlock ≠ some w.heap.size := by
            cases hv : (Value.slice A acc.length cap).ownBlock with
            | none => exact .inl rfl
            | some g =>
              right
              intro e
              have := (HO.out.lt g hv).1
              have e2 : g = w.heap.size := Option.some.inj e
              omega
          have HOE := (HO.out.kept (grown_setCell wr w.heap.size 0 (.string s)) hne).kept (grown_setCell (wr.setCell ⟨w.heap.size, 0, none⟩ (.string s)) w.heap.size 1 (.slice A acc.length cap)) hne
          obtain ⟨A', cap', hAe, HRE, HAT⟩ := ref_done HOE
          cases hAe
          refine bodyPost_ret (res13 _ _ w.heap.size _ _ _ _ rfl rfl rfl (refB_store (v' := .slice A acc.length cap) (refB_text (s' := s) HR.out))) rfl ?_
          exact ⟨⟨_, _, _, rfl, HRE, fun a h => ⟨by have := (HAT a h).1; omega, (HAT a h).2⟩⟩, HBE⟩

theorem RCompile_any (s : ByteArray) (w : World) (hs0 : s.size ≤ 100000) : Calls Tryd.prog 13 #[.string s] w (RCompPost w (compF (chars s))) :=
  (RCompile_at s w hs0).mono fun _ _ ⟨⟨txt, A, cap, h1, h2, _⟩, hB⟩ => ⟨⟨txt, A, cap, h1, h2⟩, hB⟩

end Go.Proofs.YtgnmanmlnbidfaaDoor
