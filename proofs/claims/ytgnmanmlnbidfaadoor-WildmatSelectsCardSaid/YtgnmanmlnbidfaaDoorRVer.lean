/- Wildmat: the reference's Verdict and Selects, by walks through their text. -/
import Derived.Test.YtgnmanmlnbidfaaDoorRMat
namespace Go.Proofs.YtgnmanmlnbidfaaDoor
open Go.RowKit

/-- An item of the reference's list. -/
structure RIt where
  v : Nat
  txt : ByteArray
  A : Option Addr
  cap : Nat
  L : List El

def RIt.vals (t : RIt) : List Value := [.int .i64 (t.v : Nat), .string t.txt, .slice t.A t.L.length t.cap]
def RIt.it (t : RIt) : Nat × List El := (t.v, t.L)
def rdef : RIt := ⟨0, ByteArray.empty, none, 0, []⟩

structure IsRItems (w : World) (B : Nat) (A : Option Addr) (its : List RIt) : Prop where
  reads : ReadsV w B A (its.flatMap RIt.vals)
  pats : ∀ t ∈ its, t.v ≤ 3 ∧ IsRef w B t.A t.L ∧ t.L.length ≤ 80 ∧ ∀ e ∈ t.L, e.ok
  len : its.length ≤ 64

theorem IsRItems.below {w w' : World} {B : Nat} {A : Option Addr} {its : List RIt} (h : IsRItems w B A its) (hb : Below B w w') : IsRItems w' B A its :=
  ⟨h.reads.below hb, fun t ht => by obtain ⟨h1, h2, h3⟩ := h.pats t ht; exact ⟨h1, h2.below hb, h3⟩, h.len⟩

theorem IsRItems.up {w : World} {B B' : Nat} {A : Option Addr} {its : List RIt} (h : IsRItems w B A its) (hB : B ≤ B') : IsRItems w B' A its :=
  ⟨by
    rcases h.reads with h3 | ⟨b, off, h3, h4, h5⟩
    · exact .inl h3
    · exact .inr ⟨b, off, h3, Nat.lt_of_lt_of_le h4 hB, h5⟩, fun t ht => by obtain ⟨h1, h2, h3⟩ := h.pats t ht; exact ⟨h1, h2.up hB, h3⟩, h.len⟩

theorem IsRItems.later {w W : World} {A : Option Addr} {its : List RIt} (h : IsRItems w w.heap.size A its) (hb : Below w.heap.size w W) : IsRItems W W.heap.size A its := (h.below hb).up hb.size

theorem rflat_len : ∀ its : List RIt, (its.flatMap RIt.vals).length = 3 * its.length := by
  intro its
  induction its with
  | nil => rfl
  | cons t its ih => rw [List.flatMap_cons, List.length_append, ih]; simp [RIt.vals]; omega

theorem rflat_at : ∀ (its : List RIt) (j i : Nat), j < its.length → i < 3 → (its.flatMap RIt.vals).getD (j * 3 + i) undef = (its.getD j rdef).vals.getD i undef := by
  intro its
  induction its with
  | nil => intro j i hj; simp at hj
  | cons t its ih =>
    intro j i hj hi
    have h3 : t.vals.length = 3 := rfl
    cases j with
    | zero =>
      rw [List.flatMap_cons, Nat.zero_mul, Nat.zero_add, List.getD_eq_getElem?_getD, List.getElem?_append_left (by omega), ← List.getD_eq_getElem?_getD]
      rfl
    | succ j =>
      rw [List.flatMap_cons, List.getD_eq_getElem?_getD, List.getElem?_append_right (by omega), h3, show (j + 1) * 3 + i - 3 = j * 3 + i by omega, ← List.getD_eq_getElem?_getD]
      exact ih j i (by simpa using hj) hi

theorem IsRItems.at {w : World} {B : Nat} {A : Option Addr} {its : List RIt} {j : Nat} (h : IsRItems w B A its) (hj : j < its.length) :
    ∃ b off, A = some ⟨b, off, none⟩ ∧ b < B ∧ w.cell? ⟨b, off + j * 3, none⟩ = some (.int .i64 ((its.getD j rdef).v : Nat)) ∧ w.cell? ⟨b, off + j * 3 + 1, none⟩ = some (.string (its.getD j rdef).txt) ∧
      w.cell? ⟨b, off + j * 3 + 1 + 1, none⟩ = some (.slice (its.getD j rdef).A (its.getD j rdef).L.length (its.getD j rdef).cap) := by
  rcases h.reads with h1 | ⟨b, off, h1, h2, h3⟩
  · have := congrArg List.length h1
    rw [rflat_len] at this
    simp only [List.length_nil] at this
    omega
  · refine ⟨b, off, h1, h2, ?_, ?_, ?_⟩
    · have h4 := h3 (j * 3 + 0) (by rw [rflat_len]; omega)
      rw [rflat_at its j 0 hj (by omega)] at h4
      exact h4
    · have h4 := h3 (j * 3 + 1) (by rw [rflat_len]; omega)
      rw [rflat_at its j 1 hj (by omega)] at h4
      exact h4
    · have h4 := h3 (j * 3 + 2) (by rw [rflat_len]; omega)
      rw [rflat_at its j 2 hj (by omega)] at h4
      exact h4

theorem verd_next (its : List RIt) (l : List Nat) {k : Nat} (hk : k < its.length) : verdF ((its.take (k + 1)).map RIt.it) l = if matchF (its.getD k rdef).L l = true then (its.getD k rdef).v else verdF ((its.take k).map RIt.it) l := by
  rw [List.take_succ_eq_append_getElem hk, List.map_append, List.map_cons, List.map_nil, List.getD_eq_getElem?_getD, List.getElem?_eq_getElem hk]
  unfold verdF
  rw [List.foldl_append]
  rfl

set_option maxRecDepth 100000 in
set_option maxHeartbeats 4000000 in
theorem RVerdict_any (s : ByteArray) (A : Option Addr) (its : List RIt) (cap : Nat) (w : World) (h : IsRItems w w.heap.size A its) (hs : s.size ≤ 100) :
    Calls Tryd.prog 24 #[.slice A its.length cap, .string s] w fun e w' => e = .returned (.int .i64 (verdF (its.map RIt.it) (chars s) : Nat)) ∧ Below w.heap.size w w' := by
  have hlen := h.len
  have HI := Lib.hid h
  clear h
  go_enter Tryd.func24, Tryd.ntmps24
  go_wp2_with fail
  go_loopw [5, 6] (fun vv vk wr => ∃ k : Nat, k ≤ its.length ∧ vv = .int .i64 (verdF ((its.take k).map RIt.it) (chars s) : Nat) ∧ vk = .int .i64 k ∧ Hid (Below w.heap.size w wr)) (fun _ vk _ => (its.length - intOf vk).toNat)
  case atStart => exact ⟨0, by omega, rfl, rfl, Lib.hid (Below.refl _ _)⟩
  case round =>
    obtain ⟨k, hk, rfl, rfl, HB⟩ := hrel
    by_cases hlt : k < its.length
    · obtain ⟨b, off, hA, hb, c0, c1, c2⟩ := (HI.out.later HB.out).at hlt
      subst hA
      have hkl : (k : Int) < (its.length : Int) := by omega
      have hnx := verd_next its (chars s) hlt
      obtain ⟨h1, h2, h3, h4⟩ := (HI.out.later HB.out).pats (its.getD k rdef) (by rw [List.getD_eq_getElem?_getD, List.getElem?_eq_getElem hlt]; exact List.getElem_mem hlt)
      generalize its.getD k rdef = t at *
      have HN := Lib.hid hnx
      have HM := Lib.hid (RMatch_any t.txt s t.A t.L t.cap wr h2 h3 h4 hs)
      clear hnx h2 h4
      obtain ⟨y, hy⟩ : ∃ y, verdF ((its.take k).map RIt.it) (chars s) = y := ⟨_, rfl⟩
      rw [hy]
      rw [hy] at HN
      clear hy
      cases hq : matchF t.L (chars s) with
      | true =>
        rw [hq] at HM
        have HN2 : Hid (verdF ((its.take (k + 1)).map RIt.it) (chars s) = t.v) := Lib.hid (by rw [HN.out, if_pos hq])
        clear hq
        go_wp2_with fail
        refine HM.out.mono ?_
        rintro e w2 ⟨rfl, b2⟩
        have d0 := (b2.cell (p := ⟨b, off + k * 3, none⟩) hb).trans c0
        have HB2 := Lib.hid (HB.out.trans (b2.mono HB.out.size))
        clear b2 c0 c1 c2
        go_wp2_with fail
        go_roundw
        case measure => simp [intOf]; omega
        case rel => exact ⟨k + 1, by omega, by rw [HN2.out], by go_num, HB2⟩
      | false =>
        rw [hq] at HM
        have HN2 : Hid (verdF ((its.take (k + 1)).map RIt.it) (chars s) = y) := Lib.hid (by rw [HN.out, if_neg (by rw [hq]; simp)])
        clear hq
        go_wp2_with fail
        refine HM.out.mono ?_
        rintro e w2 ⟨rfl, b2⟩
        have HB2 := Lib.hid (HB.out.trans (b2.mono HB.out.size))
        clear b2 c0 c1 c2
        go_wp2_with fail
        go_roundw
        case measure => simp [intOf]; omega
        case rel => exact ⟨k + 1, by omega, by rw [HN2.out], by go_num, HB2⟩
    · obtain rfl : k = its.length := by omega
      rw [List.take_length]
      clear hlt hk
      go_wp2_with fail
      go_ret
      exact ⟨rfl, HB.out⟩

/-- Selects as the reference has it: the same answer. -/
theorem sel_ref {f : ByteArray → Nat} {l : List ByteArray} {k : Nat} (hk : k < l.length) (b : Bool) :
    selGo f (l.drop k) b = if f (l.getD k ByteArray.empty) = 3 then false else selGo f (l.drop (k + 1)) (b || decide (f (l.getD k ByteArray.empty) = 1)) := by
  rw [sel_at hk]
  by_cases h1 : f (l.getD k ByteArray.empty) = 1
  · rw [if_pos h1, if_neg (by omega), decide_eq_true h1, Bool.or_true]
  · rw [if_neg h1, decide_eq_false h1, Bool.or_false]

end Go.Proofs.YtgnmanmlnbidfaaDoor
