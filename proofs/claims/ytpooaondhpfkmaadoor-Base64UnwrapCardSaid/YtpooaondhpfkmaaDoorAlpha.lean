/- Base64's 64 characters: what alphabet() and its closure compute, by a walk through their text. -/
import Derived.Test.YtpooaondhpfkmaaDoorProg
import Derived.WalkKit
import Derived.Outline
import Derived.Below
import Derived.OneCell
import Derived.KernelRfl
import Derived.WalkSpells
import Derived.WalkLawsBesides
import Derived.Deep.LoopGhost
import Derived.Lib.Hide
import Derived.Laws.Rows
import Derived.Laws.Tables
import Derived.Laws.CopyOwn
namespace Go.Proofs.YtpooaondhpfkmaaDoor
open Go.RowKit

/-- A block that holds bytes. -/
def bcells (xs : List Int) : Obj := .cells (xs.map (Value.int .u8)).toArray 54 (0, 0)

/-- xs with f, f+1, .. (j of them) from place k on. -/
def fillAt (xs : List Int) (k : Nat) (f : Int) : Nat → List Int
  | 0 => xs
  | j + 1 => (fillAt xs k f j).set (k + j) (f + j)

theorem fillAt_length (xs : List Int) (k : Nat) (f : Int) (j : Nat) : (fillAt xs k f j).length = xs.length := by
  induction j with
  | zero => rfl
  | succ j ih => simp [fillAt, ih]

theorem bcells_cell {w : World} {b : Nat} {xs : List Int} (h : w.heap[b]? = some (bcells xs)) (i : Nat) (hi : i < xs.length) : w.cell? ⟨b, i, none⟩ = some (.int .u8 (xs.getD i 0)) := by
  simp [World.cell?, h, bcells, hi]
theorem bcells_free {w : World} {b : Nat} {xs : List Int} (h : w.heap[b]? = some (bcells xs)) (i : Nat) : w.frozen? ⟨b, i, none⟩ = false := by
  simp [World.frozen?, h, bcells]
theorem bcells_set {w : World} {b : Nat} {xs : List Int} (h : w.heap[b]? = some (bcells xs)) (i : Nat) (v : Int) : (w.setCell ⟨b, i, none⟩ (.int .u8 v)).heap[b]? = some (bcells (xs.set i v)) := by
  have hlt := lt_of_block h
  have h' : w.heap[b] = bcells xs := by simpa [Array.getElem?_eq_getElem hlt] using h
  show (w.heap.modify b _)[b]? = _
  rw [Array.getElem?_eq_getElem (by simpa using hlt), Array.getElem_modify_self, h']
  simp [bcells]

set_option maxHeartbeats 1000000 in
theorem add_any (B b c : Nat) (xs : List Int) (f t : Int) (k m : Nat) (hf : 0 ≤ f) (hm : Hid (t + 1 = f + m)) (ht : t ≤ 254) (hk : k + m ≤ 64) (hx : xs.length = 64) (hb : B ≤ b) (hc : B ≤ c) (hbc : b ≠ c) (w : World)
    (h1 : w.heap[b]? = some (bcells xs)) (h2 : w.heap[c]? = some (.cells #[.int .i64 k] 3 (0, 0))) :
    Calls Tryd.prog 28 #[.int .u8 f, .int .u8 t, .pointer (some ⟨b, 0, none⟩), .pointer (some ⟨c, 0, none⟩)] w fun e w' =>
      e = .returned (.tuple #[]) ∧ Hid (w'.heap[b]? = some (bcells (fillAt xs k f m))) ∧ Hid (w'.heap[c]? = some (.cells #[.int .i64 (k + m : Nat)] 3 (0, 0))) ∧ Below B w w' := by
  have H1 : Hid (w.heap[b]? = some (bcells xs)) := h1
  have H2 : Hid (w.heap[c]? = some (.cells #[.int .i64 k] 3 (0, 0))) := h2
  clear h1 h2
  go_enter Tryd.func28, Tryd.ntmps28
  go_wp2
  go_loopw [6] (fun v wr => ∃ j : Nat, j ≤ m ∧ v = .int .u8 (f + j) ∧ Hid (wr.heap[b]? = some (bcells (fillAt xs k f j))) ∧ Hid (wr.heap[c]? = some (.cells #[.int .i64 (k + j : Nat)] 3 (0, 0))) ∧ Below B w wr) (fun v _ => (t + 1 - intOf v).toNat)
  case atStart => exact ⟨0, by omega, by simp, H1, H2, Below.refl _ _⟩
  case round =>
    obtain ⟨j, hj, rfl, G1, G2, hB⟩ := hrel
    by_cases hlt : j < m
    · have hl := fillAt_length xs k f j
      have c1 := bcells_cell G1.out (k + j) (by omega)
      have c2 := cell_of_one G2.out
      have f1 := bcells_free G1.out (k + j)
      have f2 := free_of_one G2.out
      have hl2 : k + j < 64 := by omega
      have hle : f + j ≤ t := by have := hm.out; omega
      clear hl
      go_wp2
      refine ⟨⟨j + 1, by omega, by rw [show f + (j : Int) + 1 = f + ((j + 1 : Nat) : Int) from by omega], ?_, ?_, ?_⟩, by simp [intOf]; omega⟩
      · have g := bcells_set G1.out (k + j) (f + j)
        show _ = _
        rw [Below.heap_setCell _ _ _ _ hbc]
        exact g
      · have g := Below.heap_setCell wr ⟨b, k + j, none⟩ (.int .u8 (f + j)) c (Ne.symm hbc)
        have g2 := one_setCell (u := .int .i64 ((k : Int) + j + 1)) (g.trans G2.out)
        show _ = _
        rw [g2, show (k : Int) + j + 1 = ((k + (j + 1) : Nat) : Int) from by omega]
      · exact (hB.setCell (p := ⟨b, k + j, none⟩) hb _).setCell (p := ⟨c, 0, none⟩) hc _
    · have hle : ¬ f + j ≤ t := by have := hm.out; omega
      go_wp2
      go_end0
      obtain rfl : j = m := by omega
      exact ⟨rfl, G1, G2, hB⟩

/-- The 64 characters. -/
def alphaL : List Int := fillAt (fillAt (fillAt (fillAt (fillAt (List.replicate 64 0) 0 65 26) 26 97 26) 52 48 10) 62 43 1) 63 47 1

theorem alphaL_eq : alphaL = [65, 66, 67, 68, 69, 70, 71, 72, 73, 74, 75, 76, 77, 78, 79, 80, 81, 82, 83, 84, 85, 86, 87, 88, 89, 90, 97, 98, 99, 100, 101, 102, 103, 104, 105, 106, 107, 108, 109, 110, 111, 112, 113, 114, 115, 116, 117, 118, 119, 120, 121, 122, 48, 49, 50, 51, 52, 53, 54, 55, 56, 57, 43, 47] := by decide +kernel

/-- 64 zeros. -/
def zero64 : List Int := List.replicate 64 0
theorem zero64_block : bcells zero64 = .cells #[.int .u8 0, .int .u8 0, .int .u8 0, .int .u8 0, .int .u8 0, .int .u8 0, .int .u8 0, .int .u8 0, .int .u8 0, .int .u8 0, .int .u8 0, .int .u8 0, .int .u8 0, .int .u8 0, .int .u8 0, .int .u8 0, .int .u8 0, .int .u8 0, .int .u8 0, .int .u8 0, .int .u8 0, .int .u8 0, .int .u8 0, .int .u8 0, .int .u8 0, .int .u8 0, .int .u8 0, .int .u8 0, .int .u8 0, .int .u8 0, .int .u8 0, .int .u8 0, .int .u8 0, .int .u8 0, .int .u8 0, .int .u8 0, .int .u8 0, .int .u8 0, .int .u8 0, .int .u8 0, .int .u8 0, .int .u8 0, .int .u8 0, .int .u8 0, .int .u8 0, .int .u8 0, .int .u8 0, .int .u8 0, .int .u8 0, .int .u8 0, .int .u8 0, .int .u8 0, .int .u8 0, .int .u8 0, .int .u8 0, .int .u8 0, .int .u8 0, .int .u8 0, .int .u8 0, .int .u8 0, .int .u8 0, .int .u8 0, .int .u8 0, .int .u8 0] 54 (0, 0) := rfl

theorem info48 : (Tryd.prog.info? 54).map (·.size) = some 64 := by kernel_rfl

theorem alpha_any (w : World) : Calls Tryd.prog 19 #[] w fun e w' => e = .returned (.agg (alphaL.map (Value.int .u8)).toArray) ∧ Below w.heap.size w w' := by
  have hmf : ∀ (fn : Fn) (first cap : Array Value) (w : World), (Instr.makeFunc fn first cap).run Tryd.prog w = .ok (.func fn first cap) w := fun _ _ _ _ => rfl
  have hlen : ∀ (xs : List Int) (k : Nat) (f : Int) (j : Nat), xs.length = 64 → (fillAt xs k f j).length = 64 := fun xs k f j h => (fillAt_length _ _ _ _).trans h
  have HL := Lib.hid hlen
  clear hlen
  go_enter Tryd.func19, Tryd.ntmps19
  go_wp2_with fail
  rw [← zero64_block]
  obtain ⟨W, hW⟩ : ∃ W, W = ((w.alloc (bcells zero64)).alloc (bcells zero64)).alloc (.cells #[.int .i64 0] 3) := ⟨_, rfl⟩
  rw [← hW]
  have b0 : Below w.heap.size w W := by rw [hW]; exact (((Below.refl _ _).alloc (Nat.le_refl _) _).alloc (by simp) _).alloc (by simp; omega) _
  have e0 : W.heap[w.heap.size]? = some (bcells zero64) := by rw [hW, Below.heap_alloc _ _ _ (by simp; omega), Below.heap_alloc _ _ _ (by simp), heap_alloc_new]
  have e1 : W.heap[w.heap.size + 1]? = some (bcells zero64) := by rw [hW, Below.heap_alloc _ _ _ (by simp)]; exact heap_alloc2_new _ _ _
  have e2 : W.heap[w.heap.size + 1 + 1]? = some (.cells #[.int .i64 (0 : Nat)] 3 (0, 0)) := by rw [hW]; have h := heap_alloc2_new (w.alloc (bcells zero64)) (bcells zero64) (.cells #[.int .i64 0] 3); simp only [World.size_alloc] at h; exact h
  clear hW
  refine (add_any (w.heap.size + 1) (w.heap.size + 1) (w.heap.size + 1 + 1) zero64 65 90 0 26 (by omega) rfl (by omega) (by omega) rfl (by omega) (by omega) (by omega) W e1 e2).mono ?_
  have E0 := Lib.hid e0
  clear e0 e1 e2
  rintro e w1 ⟨rfl, g1, g2, b1⟩
  go_wp2_with fail
  refine (add_any (w.heap.size + 1) (w.heap.size + 1) (w.heap.size + 1 + 1) _ 97 122 26 26 (by omega) rfl (by omega) (by omega) (HL.out _ _ _ _ rfl) (by omega) (by omega) (by omega) w1 g1.out g2.out).mono ?_
  clear g1 g2
  rintro e w2 ⟨rfl, g1, g2, b2⟩
  go_wp2_with fail
  refine (add_any (w.heap.size + 1) (w.heap.size + 1) (w.heap.size + 1 + 1) _ 48 57 52 10 (by omega) rfl (by omega) (by omega) (HL.out _ _ _ _ (HL.out _ _ _ _ rfl)) (by omega) (by omega) (by omega) w2 g1.out g2.out).mono ?_
  clear g1 g2
  rintro e w3 ⟨rfl, g1, g2, b3⟩
  go_wp2_with fail
  refine (add_any (w.heap.size + 1) (w.heap.size + 1) (w.heap.size + 1 + 1) _ 43 43 62 1 (by omega) rfl (by omega) (by omega) (HL.out _ _ _ _ (HL.out _ _ _ _ (HL.out _ _ _ _ rfl))) (by omega) (by omega) (by omega) w3 g1.out g2.out).mono ?_
  clear g1 g2
  rintro e w4 ⟨rfl, g1, g2, b4⟩
  go_wp2_with fail
  refine (add_any (w.heap.size + 1) (w.heap.size + 1) (w.heap.size + 1 + 1) _ 47 47 63 1 (by omega) rfl (by omega) (by omega) (HL.out _ _ _ _ (HL.out _ _ _ _ (HL.out _ _ _ _ (HL.out _ _ _ _ rfl)))) (by omega) (by omega) (by omega) w4 g1.out g2.out).mono ?_
  clear g1 g2
  rintro e w5 ⟨rfl, g1, g2, b5⟩
  have G : Hid (w5.heap[w.heap.size + 1]? = some (bcells alphaL)) := g1
  have bb := (((b1.trans b2).trans b3).trans b4).trans b5
  have E1 : Hid (w5.heap[w.heap.size]? = some (bcells zero64)) := (bb.block w.heap.size (by omega)).trans E0.out
  have bz := b0.trans (bb.mono (by omega))
  clear E0 g1 g2 b0 b1 b2 b3 b4 b5 bb
  have hsz : Hid (alphaL.length = 64) := by rw [alphaL_eq]; rfl
  go_wp2_with (first
    | (refine wpList_load_row rfl 54 _ rfl (w.heap.size + 1) rfl 54 _ _ _ G.out Tryd.underlying54 rfl ?hsz ?_)
    | (refine wpList_store_row rfl 54 _ _ rfl w.heap.size _ rfl rfl 54 _ E1.out ?hsz2 ?hsz3 ?hone ?_))
  case hsz => exact info48.trans (by simp [hsz.out])
  case hsz2 => exact info48.trans (by simp [hsz.out])
  case hsz3 => simp [hsz.out, zero64]
  case hone => simp [Value.oneCell']
  refine bodyPost_ret (v := .agg (alphaL.map (Value.int .u8)).toArray) (results_cell_row (p := 0) (ty := 54) rfl _ _ w.heap.size 54 _ (0, 0) _ rfl (setRow_heap _ _ _ _ _ _ E1.out) Tryd.underlying54 rfl (info48.trans (by simp [hsz.out]))) rfl ⟨rfl, below_setRow bz (Nat.le_refl _) _⟩
end Go.Proofs.YtpooaondhpfkmaaDoor
