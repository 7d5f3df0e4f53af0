/- Wildmat: a list's verdict, by a walk through its text. -/
import Derived.Test.YtgnmanmlnbidfaaDoorBack
namespace Go.Proofs.YtgnmanmlnbidfaaDoor
open Go.RowKit Go.Shelf

attribute [local go_sem] Oper.semAt_some

/-- The verdict on a name: the last item's that matches, else none. -/
def verdF (its : List (Nat × List El)) (l : List Nat) : Nat := its.foldl (fun v t => if matchF t.2 l = true then t.1 else v) 0

theorem verd_keep (l : List Nat) : ∀ (its : List (Nat × List El)) (v : Nat), (∀ t ∈ its, matchF t.2 l = false) → its.foldl (fun v t => if matchF t.2 l = true then t.1 else v) v = v := by
  intro its
  induction its with
  | nil => intro v _; rfl
  | cons t its ih =>
    intro v h
    rw [List.foldl_cons, h t (by simp)]
    exact ih v (fun t ht => h t (by simp [ht]))

theorem verd_none {its : List (Nat × List El)} {l : List Nat} (h : ∀ t ∈ its, matchF t.2 l = false) : verdF its l = 0 := verd_keep l its 0 h

theorem verd_some {its : List (Nat × Nat × List El)} {l : List Nat} {j : Nat} (hj : j < its.length) (h : matchF (its.getD j (0, 0, [])).2.2 l = true) (h2 : ∀ i, j < i → i < its.length → matchF (its.getD i (0, 0, [])).2.2 l = false) :
    verdF (its.map itA) l = (its.getD j (0, 0, [])).1 := by
  have e : its = its.take j ++ its.getD j (0, 0, []) :: its.drop (j + 1) := by
    rw [List.getD_eq_getElem?_getD, List.getElem?_eq_getElem hj, Option.getD_some, ← List.drop_eq_getElem_cons hj, List.take_append_drop]
  have e2 : its.map itA = (its.take j).map itA ++ itA (its.getD j (0, 0, [])) :: (its.drop (j + 1)).map itA := by
    conv => lhs; rw [e]
    rw [List.map_append, List.map_cons]
  rw [e2, verdF, List.foldl_append, List.foldl_cons]
  have h' : matchF (itA (its.getD j (0, 0, []))).2 l = true := h
  rw [if_pos h']
  refine verd_keep l _ _ ?_
  intro t ht
  obtain ⟨u, hu, rfl⟩ := List.mem_map.1 ht
  obtain ⟨i, hi, rfl⟩ := List.getElem_of_mem hu
  rw [List.getElem_drop]
  simp only [List.length_drop] at hi
  have := h2 (j + 1 + i) (by omega) (by omega)
  rw [List.getD_eq_getElem?_getD, List.getElem?_eq_getElem (by omega)] at this
  exact this

theorem flat_len : ∀ its : List (Nat × Nat × List El), (its.flatMap itV).length = 2 * its.length := by
  intro its
  induction its with
  | nil => rfl
  | cons t its ih => rw [List.flatMap_cons, List.length_append, ih]; simp [itV]; omega

theorem flat_at : ∀ (its : List (Nat × Nat × List El)) (j : Nat), j < its.length →
    (its.flatMap itV).getD (j * 2) undef = .int .i64 ((its.getD j (0, 0, [])).1 : Nat) ∧ (its.flatMap itV).getD (j * 2 + 1) undef = .pointer (some ⟨(its.getD j (0, 0, [])).2.1, 0, none⟩) := by
  intro its
  induction its with
  | nil => intro j hj; simp at hj
  | cons t its ih =>
    intro j hj
    cases j with
    | zero => exact ⟨rfl, rfl⟩
    | succ j =>
      have := ih j (by simpa using hj)
      rw [List.flatMap_cons, show (j + 1) * 2 = j * 2 + 1 + 1 by omega]
      exact this

theorem IsList.cells {w : World} {B lb : Nat} {txt : ByteArray} {its : List (Nat × Nat × List El)} {A : Option Addr} {cap : Nat} (h : IsList w B lb txt its A cap) :
    its.length = 0 ∨ ∃ b off, A = some ⟨b, off, none⟩ ∧ b < B ∧ ∀ j, j < its.length → w.cell? ⟨b, off + j * 2, none⟩ = some (.int .i64 ((its.getD j (0, 0, [])).1 : Nat)) ∧ w.cell? ⟨b, off + j * 2 + 1, none⟩ = some (.pointer (some ⟨(its.getD j (0, 0, [])).2.1, 0, none⟩)) := by
  rcases h.reads with h1 | ⟨b, off, h1, h2, h3⟩
  · left
    have := congrArg List.length h1
    rw [flat_len] at this
    simp only [List.length_nil] at this
    omega
  · right
    refine ⟨b, off, h1, h2, fun j hj => ?_⟩
    have h4 := h3 (j * 2) (by rw [flat_len]; omega)
    have h5 := h3 (j * 2 + 1) (by rw [flat_len]; omega)
    obtain ⟨e1, e2⟩ := flat_at its j hj
    rw [e1] at h4
    rw [e2, ← Nat.add_assoc] at h5
    exact ⟨h4, h5⟩

theorem Verdict_nil (s : ByteArray) (w : World) : Calls Tryd.prog 23 #[.pointer none, .string s] w fun e w' => e = .returned (.int .i64 0) ∧ Below w.heap.size w w' := by
  go_enter Tryd.func23, Tryd.ntmps23
  go_wp2_with fail
  refine bodyPost_ret (v := .int .i64 0) ?_ rfl ⟨rfl, ?_⟩
  · simp [results, Tryd.f23, go_sem]
  · exact ((Below.refl _ w).alloc (Nat.le_refl _) _).alloc (by simp) _

set_option maxRecDepth 100000 in
set_option maxHeartbeats 4000000 in
theorem Verdict_any (lb : Nat) (txt s : ByteArray) (its : List (Nat × Nat × List El)) (A : Option Addr) (cap : Nat) (w : World) (hL : IsList w w.heap.size lb txt its A cap) (hs : s.size ≤ 100) :
    Calls Tryd.prog 23 #[.pointer (some ⟨lb, 0, none⟩), .string s] w fun e w' => e = .returned (.int .i64 (verdF (its.map itA) (chars s) : Nat)) ∧ Below w.heap.size w w' := by
  have hlb := hL.lt
  have hits := hL.items
  have hlen := hL.len
  refine (callsIn_wide (n := 3)).1 ?_
  refine callsIn_of_wp_marks Tryd.func23 rfl trivial ?_ rfl
  simp only [Tryd.ntmps23, List.size_toArray, List.length_cons, List.length_nil, Nat.reduceAdd, Nat.reduceSub, Array.replicate_succ, Array.replicate_zero, List.push_toArray, List.append_toArray, List.nil_append, List.cons_append]
  have hB2 : Below w.heap.size w ((w.alloc (.cells #[.string s] 9)).alloc (.cells #[.int .i64 0] 3)) := ((Below.refl _ w).alloc (Nat.le_refl _) _).alloc (by simp) _
  have hits2 := (hB2.cell (p := ⟨lb, 1, none⟩) hlb).trans hits
  gi_wp2_with (refine ⟨trivial, ?_⟩; gi_at_call 45; refine (back_in Fence.wide _ trivial rfl _ _ _ _).mono ?_; rintro e w' ⟨rfl, rfl⟩)
  have bN := (Boxed.new w 9 (.string s)).alloc (.cells #[.int .i64 0] 3) |>.alloc (.cells #[.slice A its.length cap] 94)
  have bR := (Boxed.new (w.alloc (.cells #[.string s] 9)) 3 (.int .i64 0)).alloc (.cells #[.slice A its.length cap] 94)
  have bS := Boxed.new ((w.alloc (.cells #[.string s] 9)).alloc (.cells #[.int .i64 0] 3)) 94 (.slice A its.length cap)
  simp only [World.size_alloc] at bR bS
  have hB0 := hB2.alloc (o := .cells #[.slice A its.length cap] 94) (by simp; omega)
  have hsz : (((w.alloc (.cells #[.string s] 9)).alloc (.cells #[.int .i64 0] 3)).alloc (.cells #[.slice A its.length cap] 94)).heap.size = w.heap.size + 3 := by simp
  obtain ⟨W0, hW0⟩ : ∃ W0, ((w.alloc (.cells #[.string s] 9)).alloc (.cells #[.int .i64 0] 3)).alloc (.cells #[.slice A its.length cap] 94) = W0 := ⟨_, rfl⟩
  rw [hW0] at bN bR bS hB0 hsz ⊢
  clear hW0 hits2 hB2
  have hcells := (hL.below hB0).cells
  have hpat : ∀ j, j < its.length → ∃ ptxt PA pc, IsPat w w.heap.size (its.getD j (0, 0, [])).2.1 ptxt (its.getD j (0, 0, [])).2.2 PA pc := fun j hj => (hL.pats _ (by rw [List.getD_eq_getElem?_getD, List.getElem?_eq_getElem hj]; exact List.getElem_mem hj)).2
  obtain ⟨vOf, hv⟩ : ∃ vOf : Nat → Nat, vOf = fun j => (its.getD j (0, 0, [])).1 := ⟨_, rfl⟩
  obtain ⟨bOf, hbo⟩ : ∃ bOf : Nat → Nat, bOf = fun j => (its.getD j (0, 0, [])).2.1 := ⟨_, rfl⟩
  obtain ⟨mOf, hmo⟩ : ∃ mOf : Nat → Bool, mOf = fun j => matchF (its.getD j (0, 0, [])).2.2 (chars s) := ⟨_, rfl⟩
  have hcells' : its.length = 0 ∨ ∃ b off, A = some ⟨b, off, none⟩ ∧ b < W0.heap.size ∧ ∀ j, j < its.length → W0.cell? ⟨b, off + j * 2, none⟩ = some (.int .i64 (vOf j : Nat)) ∧ W0.cell? ⟨b, off + j * 2 + 1, none⟩ = some (.pointer (some ⟨bOf j, 0, none⟩)) := by
    rcases hcells with h | ⟨b, off, h1, h2, h3⟩
    · exact .inl h
    · exact .inr ⟨b, off, h1, by omega, by rw [hv, hbo]; exact h3⟩
  have hmatch : ∀ (j : Nat) (W : World), j < its.length → Below w.heap.size w W → Calls Tryd.prog 15 #[.pointer (some ⟨bOf j, 0, none⟩), .string s] W fun e w' => e = .returned (.bool (mOf j)) ∧ Below W.heap.size W w' := by
    intro j W hj hB
    obtain ⟨ptxt, PA, pc, hp⟩ := hpat j hj
    rw [hbo, hmo]
    exact Match_any _ ptxt s _ PA pc W ((hp.below hB).up hB.size) hs
  have HD : (∀ j, j < its.length → mOf j = false) → verdF (its.map itA) (chars s) = 0 := fun h => verd_none (fun t ht => by
    obtain ⟨u, hu, rfl⟩ := List.mem_map.1 ht
    obtain ⟨i, hi, rfl⟩ := List.getElem_of_mem hu
    have := h i hi
    rw [hmo] at this
    simp only at this
    rw [List.getD_eq_getElem?_getD, List.getElem?_eq_getElem hi] at this
    exact this)
  have HS : ∀ j, j < its.length → mOf j = true → (∀ i, j < i → i < its.length → mOf i = false) → verdF (its.map itA) (chars s) = vOf j := by
    rw [hmo, hv]
    exact fun j hj h1 h2 => verd_some hj h1 h2
  clear hv hbo hmo hcells hpat
  refine wpIn_rangeFunc_ownH rfl (by omega) (gf := 55) (lb := #[.pointer (some ⟨w.heap.size + 1 + 1, 0, none⟩)]) rfl trivial (enters_of Tryd.func55 (by kernel_rfl) rfl)
    (back_stops Fence.wide 2 trivial rfl (by omega) (w.heap.size + 1 + 1) W0.heap.size its.length cap A vOf bOf hlen W0 (by omega) (Nat.le_refl _) bS.cell hcells') belowK_t (belowK_b (Nat.le_refl _)) (Below.refl _ _) (fun _ => rfl)
    (fun pre W => (∀ x ∈ pre, mOf x.1 = false) ∧ Below W0.heap.size W0 W)
    (fun c pre W => (c = .ret ∧ ∃ (ini : List (Ix its.length)) (last : Ix its.length), pre = ini ++ [last] ∧ (∀ x ∈ ini, mOf x.1 = false) ∧ mOf last.1 = true ∧ W.cell? ⟨w.heap.size + 1, 0, none⟩ = some (.int .i64 (vOf last.1 : Nat))) ∧ Below w.heap.size w W)
    (OwnFrom.and (ownFrom_pure _ _) (ownFrom_below (Nat.le_refl _) (Nat.le_refl _)))
    (fun c => OwnFrom.and (Own.from (fun s A B row hs hg hr => by obtain ⟨hc, ini, last, e1, e2, e3, e4⟩ := hs; exact ⟨hc, ini, last, e1, e2, e3, cell_kept e4 hg hr⟩) _) (ownFrom_below (Nat.le_refl _) (by omega)))
    ⟨by simp, Below.refl _ _⟩
    (fun x a' W => ∃ Bx, w.heap.size + 1 < Bx ∧ (W.cell? ⟨Bx, 0, none⟩ = some (.int .i64 (vOf x.1 : Nat)) ∧ W.cell? ⟨Bx, 1, none⟩ = some (.pointer (some ⟨bOf x.1, 0, none⟩))) ∧ a' = { tmps := #[.pointer (some ⟨lb, 0, none⟩), .string s, undef, .pointer (some ⟨w.heap.size, 0, none⟩), .pointer (some ⟨w.heap.size + 1, 0, none⟩), undef, .pointer (some ⟨Bx, 0, none⟩), .pointer (some ⟨lb, 0, none⟩), .bool false, .pointer (some ⟨lb, 0, none⟩), .pointer (some ⟨lb, 0, none⟩), .pointer (some ⟨lb, 1, none⟩), .slice A its.length cap, .func (.func 55) #[] #[.pointer (some ⟨w.heap.size + 1 + 1, 0, none⟩)], .int .i64 (x.1 : Nat), .agg #[.int .i64 (vOf x.1 : Nat), .pointer (some ⟨bOf x.1, 0, none⟩)], undef, undef, undef, undef, undef, undef], defers := [] })
    (fun x a' _ X Y row hs hg hr => by obtain ⟨Bx, h1, h2, h3⟩ := hs; exact ⟨Bx, h1, ⟨cell_kept h2.1 hg (fun r e => (hr r e).2), cell_kept h2.2 hg (fun r e => (hr r e).2)⟩, h3⟩)
    ?assign ?body ?done ?stop
  case assign =>
    rintro l pre x W K ⟨hp, hB1⟩ hK
    gi_wp2
    have hWs := hB1.size
    refine hK _ _ ((KeepsOthers.alloc _ _).from _) ((Below.refl _ W).alloc hB1.size _) ⟨hp, hB1.alloc hB1.size _⟩ ⟨W.heap.size, by omega, ?_, rfl⟩
    have h := heap_alloc_new W (.cells #[.int .i64 (vOf x.1 : Nat), .pointer (some ⟨bOf x.1, 0, none⟩)] 99)
    constructor <;> (simp only [World.cell?, h]; rfl)
  case body =>
    rintro l pre x a' W hl _ ⟨hp, hB1⟩ ⟨Bx, hBx, ⟨x0, x1⟩, rfl⟩ hlt
    have hBw : Below w.heap.size w W := hB0.trans (hB1.mono hB0.size)
    have cN := (hB1.cell (p := ⟨w.heap.size, 0, none⟩) (show w.heap.size < W0.heap.size by omega)).trans bN.cell
    have cR := (hB1.cell (p := ⟨w.heap.size + 1, 0, none⟩) (show w.heap.size + 1 < W0.heap.size by omega)).trans bR.cell
    have fR := (hB1.frozen (p := ⟨w.heap.size + 1, 0, none⟩) (show w.heap.size + 1 < W0.heap.size by omega)).trans bR.frozen
    have hM := hmatch x.1 W x.2 hBw
    have hWs := hB1.size
    have hbx := World.block_lt_of_cell? _ _ x0
    clear hmatch hcells' HD HS
    obtain ⟨q, hq⟩ : ∃ q, mOf x.1 = q := ⟨_, rfl⟩
    rw [hq] at hM
    gi_wp2_with (refine ⟨trivial, ?_⟩; gi_at_call 15; refine (CallsIn.inRound l (callsIn_wide.2 hM)).mono ?_; rintro e w' ⟨rfl, hb2⟩; have y0 := (hb2.cell (p := ⟨Bx, 0, none⟩) hbx).trans x0; have cR2 := (hb2.cell (p := ⟨w.heap.size + 1, 0, none⟩) (show w.heap.size + 1 < W.heap.size by omega)).trans cR; have fR2 := (hb2.frozen (p := ⟨w.heap.size + 1, 0, none⟩) (show w.heap.size + 1 < W.heap.size by omega)).trans fR)
    · have hqt : q = true := by assumption
      exact ⟨(KeepsFrom.of_grownBy (grown_of_below hb2 none) (by simp)).trans ((KeepsOthers.setCell _ _ _).from _), ⟨rfl, pre, x, rfl, hp, hq.trans hqt, World.cell?_setCell_same' _ _ _ (by rw [cR2]; rfl)⟩, (hBw.trans (hb2.mono hBw.size)).setCell (p := ⟨w.heap.size + 1, 0, none⟩) (by simp) _⟩
    · have hqf : q = false := by
        cases q with
        | false => rfl
        | true => simp_all
      exact ⟨KeepsFrom.of_grownBy (grown_of_below hb2 none) (by simp), hb2.mono hWs, fun y hy => by
        rcases List.mem_append.1 hy with h | h
        · exact hp y h
        · rw [List.mem_singleton.1 h, hq, hqf], hB1.trans (hb2.mono hWs)⟩
  case done =>
    rintro D ys W hD hys ⟨hp, hB1⟩ hK
    have hBw : Below w.heap.size w W := hB0.trans (hB1.mono hB0.size)
    have cR := (hB1.cell (p := ⟨w.heap.size + 1, 0, none⟩) (show w.heap.size + 1 < W0.heap.size by omega)).trans bR.cell
    have fR := (hB1.frozen (p := ⟨w.heap.size + 1, 0, none⟩) (show w.heap.size + 1 < W0.heap.size by omega)).trans bR.frozen
    have hall : Hid (verdF (its.map itA) (chars s) = 0) := Lib.hid (HD fun j hj => by
      have : j ∈ ys.map (·.1) := by
        rw [hys]
        simp only [downF, List.mem_map, List.mem_range]
        exact ⟨its.length - 1 - j, by omega, by omega⟩
      obtain ⟨x, hx, rfl⟩ := List.mem_map.1 this
      exact hp x hx)
    clear HD HS hmatch hcells'
    gi_wp2
    have hK' := (KeepsOthers.setCell W ⟨w.heap.size + 1, 0, none⟩ (.int .i64 0)).same D _ hK rfl
    refine ⟨by simp, .inl ⟨_, _, rfl, run_takeDeferred hK', ?_⟩⟩
    have hc5 := cell_kept (World.cell?_setCell_same' W ⟨w.heap.size + 1, 0, none⟩ (.int .i64 0) (by rw [cR]; rfl)) (grownBy_putObj' _ D (.deferred none)) (fun r e => by cases e; exact ⟨_, hK', rfl⟩)
    refine ⟨.int .i64 0, ?_, by rw [hall.out]; rfl, (hBw.setCell (p := ⟨w.heap.size + 1, 0, none⟩) (by simp) _).trans (belowK_b (w := w) (Nat.le_refl _) _ D _ _ (by omega) hK' rfl rfl)⟩
    simp [results, Tryd.f23, go_sem, hc5]
  case stop =>
    rintro D c pre W hD ⟨k, hk, hpre⟩ ⟨⟨rfl, ini, last, e1, e2, e3, hcr⟩, hB⟩ hK
    have hv : Hid (verdF (its.map itA) (chars s) = vOf last.1) := Lib.hid (HS last.1 last.2 e3 fun i h1 h2 => by
      rw [e1, List.map_append, List.map_cons, List.map_nil] at hpre
      have hk1 : ini.length + 1 = k := by
        have := congrArg List.length hpre
        rw [downF_length, List.length_append, List.length_map] at this
        exact this
      subst hk1
      rw [downF_succ] at hpre
      obtain ⟨h3, h4⟩ := List.append_inj' hpre rfl
      have h5 : last.1 = its.length - 1 - ini.length := List.head_eq_of_cons_eq h4
      have : i ∈ ini.map (·.1) := by
        rw [h3]
        simp only [downF, List.mem_map, List.mem_range]
        exact ⟨its.length - 1 - i, by omega, by omega⟩
      obtain ⟨x, hx, rfl⟩ := List.mem_map.1 this
      exact e2 x hx)
    clear HD HS hmatch hcells'
    gi_wp2
    refine ⟨by simp, .inl ⟨_, _, rfl, run_takeDeferred hK, ?_⟩⟩
    have hc5 := cell_kept hcr (grownBy_putObj' _ D (.deferred none)) (fun r e => by cases e; exact ⟨_, hK, rfl⟩)
    refine ⟨.int .i64 (vOf last.1 : Nat), ?_, by rw [hv.out], hB.trans (belowK_b (w := w) (Nat.le_refl _) W D _ _ (by omega) hK rfl rfl)⟩
    simp [results, Tryd.f23, go_sem, hc5]

end Go.Proofs.YtgnmanmlnbidfaaDoor
