/- Wildmat: patterns in memory, and Match, by walks through their text. -/
import Derived.Test.YtgnmanmlnbidfaaDoorElem
import Derived.Laws.AppendOwn
import Derived.OwnWalk
namespace Go.Proofs.YtgnmanmlnbidfaaDoor
open Go.RowKit

/-- A slice's elements, all below block B. -/
def ReadsV (w : World) (B : Nat) (A : Option Addr) (l : List Value) : Prop :=
  l = [] ∨ ∃ b off, A = some ⟨b, off, none⟩ ∧ b < B ∧ ∀ i, i < l.length → w.cell? ⟨b, off + i, none⟩ = some (l.getD i undef)

theorem ReadsV.below {w w' : World} {B : Nat} {A : Option Addr} {l : List Value} (h : ReadsV w B A l) (hb : Below B w w') : ReadsV w' B A l := by
  rcases h with h | ⟨b, off, h1, h2, h3⟩
  · exact .inl h
  · exact .inr ⟨b, off, h1, h2, fun i hi => (hb.cell (p := ⟨b, off + i, none⟩) h2).trans (h3 i hi)⟩

theorem ReadsV.at {w : World} {B : Nat} {A : Option Addr} {l : List Value} {k : Nat} (h : ReadsV w B A l) (hk : k < l.length) :
    ∃ b off, A = some ⟨b, off, none⟩ ∧ b < B ∧ w.cell? ⟨b, off + k, none⟩ = some (l.getD k undef) := by
  rcases h with h | ⟨b, off, h1, h2, h3⟩
  · subst h; simp at hk
  · exact ⟨b, off, h1, h2, h3 k hk⟩

/-- A pattern in memory, below block B. -/
structure IsPat (w : World) (B b : Nat) (txt : ByteArray) (L : List El) (A : Option Addr) (cap : Nat) : Prop where
  lt : b < B
  text : w.cell? ⟨b, 0, none⟩ = some (.string txt)
  els : w.cell? ⟨b, 1, none⟩ = some (.slice A L.length cap)
  reads : ReadsV w B A (L.map elV)
  small : ∀ e ∈ L, e.small
  ok : ∀ e ∈ L, e.ok
  len : L.length ≤ 80

theorem IsPat.below {w w' : World} {B b : Nat} {txt : ByteArray} {L : List El} {A : Option Addr} {cap : Nat} (h : IsPat w B b txt L A cap) (hb : Below B w w') : IsPat w' B b txt L A cap :=
  ⟨h.lt, (hb.cell (p := ⟨b, 0, none⟩) h.lt).trans h.text, (hb.cell (p := ⟨b, 1, none⟩) h.lt).trans h.els, h.reads.below hb, h.small, h.ok, h.len⟩

theorem getD_map_el (L : List El) {k : Nat} (hk : k < L.length) : (L.map elV).getD k undef = elV (elAt L k) := by
  rw [elAt, List.getD_eq_getElem?_getD, List.getD_eq_getElem?_getD, List.getElem?_map, List.getElem?_eq_getElem hk]; rfl

theorem IsPat.at {w : World} {B b : Nat} {txt : ByteArray} {L : List El} {A : Option Addr} {cap : Nat} (h : IsPat w B b txt L A cap) {k : Nat} (hk : k < L.length) :
    ∃ eb off, A = some ⟨eb, off, none⟩ ∧ eb < B ∧ w.cell? ⟨eb, off + k, none⟩ = some (elV (elAt L k)) := by
  obtain ⟨eb, off, h1, h2, h3⟩ := h.reads.at (k := k) (by simpa using hk)
  exact ⟨eb, off, h1, h2, by rw [h3, getD_map_el L hk]⟩

theorem elAt_mem {L : List El} {k : Nat} (hk : k < L.length) : elAt L k ∈ L := by
  rw [elAt, List.getD_eq_getElem?_getD, List.getElem?_eq_getElem hk]; exact List.getElem_mem hk

/-- A block of bools. -/
def bools (S : List Bool) : Obj := .cells (S.map Value.bool).toArray 4 (0, 0)

theorem bools_cell {w : World} {b : Nat} {S : List Bool} (h : w.heap[b]? = some (bools S)) {i : Nat} (hi : i < S.length) : w.cell? ⟨b, i, none⟩ = some (.bool (S.getD i false)) := by
  simp [World.cell?, h, bools, hi]
theorem bools_free {w : World} {b : Nat} {S : List Bool} (h : w.heap[b]? = some (bools S)) (i : Nat) : w.frozen? ⟨b, i, none⟩ = false := by
  simp [World.frozen?, h, bools]
theorem bools_set {w : World} {b : Nat} {S : List Bool} (h : w.heap[b]? = some (bools S)) (i : Nat) (v : Bool) : (w.setCell ⟨b, i, none⟩ (.bool v)).heap[b]? = some (bools (S.set i v)) := by
  have hlt := lt_of_block h
  have h' : w.heap[b] = bools S := by simpa [Array.getElem?_eq_getElem hlt] using h
  show (w.heap.modify b _)[b]? = _
  rw [Array.getElem?_eq_getElem (by simpa using hlt), Array.getElem_modify_self, h']
  simp [bools]

theorem grown_setCell (w : World) (b i : Nat) (v : Value) : w.grownBy (w.setCell ⟨b, i, none⟩ v) (some b) :=
  ⟨rfl, rfl, rfl, by simp [World.setCell], fun k _ hk => Below.heap_setCell _ _ _ _ (by intro e; exact hk (by rw [e]))⟩

theorem grown_of_below {w w' : World} (h : Below w.heap.size w w') (row : Option Nat) : w.grownBy w' row := ⟨h.os, h.tape, h.output, h.size, fun k hk _ => h.block k hk⟩

theorem grown_trans {a b c : World} {row : Option Nat} (h : a.grownBy b row) (k : b.grownBy c row) : a.grownBy c row :=
  ⟨k.os.trans h.os, k.tape.trans h.tape, k.output.trans h.output, Nat.le_trans h.size k.size, fun i hi hr => (k.block i (Nat.lt_of_lt_of_le hi h.size) hr).trans (h.block i hi hr)⟩

def loopE (L : List El) (S : List Bool) (k : Nat) : List Bool := if k < L.length ∧ (elAt L k).isStar = true then enter L S (k + 1) else S

theorem enter_loop (L : List El) (S : List Bool) (a : Nat) : enter L S a = loopE L (S.set a true) a := by
  unfold loopE
  by_cases h : a < L.length ∧ (elAt L a).isStar = true
  · rw [if_pos h, enter_star h.1 h.2]
  · rw [if_neg h, enter_stop]
    rcases Nat.lt_or_ge a L.length with h1 | h1
    · right
      cases hs : (elAt L a).isStar with
      | false => rfl
      | true => exact absurd ⟨h1, hs⟩ h
    · exact .inl h1

set_option maxRecDepth 100000 in
theorem enter_any (B b sb a : Nat) (txt : ByteArray) (L : List El) (A : Option Addr) (cap : Nat) (S : List Bool) (w : World) (hp : IsPat w B b txt L A cap) (hB : B ≤ sb) (hs : w.heap[sb]? = some (bools S)) (hS : S.length = L.length + 1) (ha : a ≤ L.length) :
    Calls Tryd.prog 35 #[.pointer (some ⟨b, 0, none⟩), .slice (some ⟨sb, 0, none⟩) (L.length + 1) (L.length + 1), .int .i64 a] w fun e w' => e = .returned (.tuple #[]) ∧ Hid (w'.heap[sb]? = some (bools (enter L S a))) ∧ w.grownBy w' (some sb) := by
  have hlen := hp.len
  have HP := Lib.hid hp
  have HS := Lib.hid hs
  have c0 := bools_cell hs (i := a) (by omega)
  have f0 := bools_free hs a
  have E := Lib.hid (enter_loop L S a)
  have hb2 := bools_set hs a true
  have HB2 := Lib.hid hb2
  have HG : Hid (w.grownBy (w.setCell ⟨sb, a, none⟩ (.bool true)) (some sb)) := Lib.hid (grown_setCell _ _ _ _)
  have HSL := Lib.hid hS
  have HBB : Hid (Below B w (w.setCell ⟨sb, a, none⟩ (.bool true))) := Lib.hid ((Below.refl _ _).setCell (p := ⟨sb, a, none⟩) hB _)
  clear hp hs hS hb2
  go_enter Tryd.func35, Tryd.ntmps35
  go_wp2_with fail
  generalize w.setCell ⟨sb, a, none⟩ (.bool true) = w1 at *
  go_loopw [2] (fun va wr => ∃ (k : Nat) (S' : List Bool), k ≤ L.length ∧ va = .int .i64 k ∧ Hid (S'.length = L.length + 1) ∧ Hid (enter L S a = loopE L S' k) ∧ Hid (wr.heap[sb]? = some (bools S')) ∧ Hid (w.grownBy wr (some sb)) ∧ Hid (Below B w wr)) (fun va _ => (L.length - intOf va).toNat)
  case atStart => exact ⟨a, _, ha, rfl, Lib.hid (by rw [List.length_set]; exact HSL.out), E, HB2, HG, HBB⟩
  case round =>
    obtain ⟨k, S', hk, rfl, HL, HE, HW, HGR, HBE⟩ := hrel
    have hp := HP.out.below HBE.out
    have c1 := hp.els
    by_cases hlt : k < L.length
    · obtain ⟨eb, off, hA, hlt2, c2⟩ := hp.at hlt
      subst hA
      have i1 : (k : Int) < (L.length : Int) := by omega
      clear hp
      cases he : elAt L k with
      | star =>
        rw [he] at c2
        simp only [elV] at c2
        have M := m_rep65
        have hE2 : Hid (enter L S a = loopE L (S'.set (k + 1) true) (k + 1)) := Lib.hid (by rw [HE.out, loopE, if_pos ⟨hlt, by rw [he]; rfl⟩, enter_loop])
        clear he
        go_wp2_with fail
        refine (starRep_any _).mono ?_
        rintro e w2 ⟨rfl, b2⟩
        have hsz := lt_of_block HW.out
        have hw2 : w2.heap[sb]? = some (bools S') := (b2.block sb hsz).trans HW.out
        have hk2 : k + 1 < S'.length := by rw [HL.out]; omega
        have c3 := bools_cell hw2 hk2
        have f3 := bools_free hw2 (k + 1)
        have HW2 := Lib.hid (bools_set hw2 (k + 1) true)
        have HG2 : Hid (w.grownBy (w2.setCell ⟨sb, k + 1, none⟩ (.bool true)) (some sb)) := Lib.hid (grown_trans (grown_trans HGR.out (grown_of_below b2 _)) (grown_setCell _ _ _ _))
        have HB2' : Hid (Below B w (w2.setCell ⟨sb, k + 1, none⟩ (.bool true))) := Lib.hid ((HBE.out.trans (b2.mono (by omega : B ≤ wr.heap.size))).setCell (p := ⟨sb, k + 1, none⟩) hB _)
        clear hw2 b2 hsz c1 c2 hk2
        go_wp2_with fail
        go_roundw
        case measure => simp [intOf]; omega
        case rel => exact ⟨k + 1, S'.set (k + 1) true, by omega, by go_num, Lib.hid (by rw [List.length_set]; exact HL.out), hE2, HW2, HG2, HB2'⟩
      | one d =>
        rw [he] at c2
        simp only [elV] at c2
        have M := m_rep61
        have hE2 : Hid (enter L S a = S') := Lib.hid (by rw [HE.out, loopE, if_neg]; rintro ⟨_, h⟩; rw [he] at h; cases h)
        clear he
        go_wp2_with fail
        refine (oneRep_any _ _).mono ?_
        rintro e w2 ⟨rfl, b2⟩
        have HW2 : Hid (w2.heap[sb]? = some (bools (enter L S a))) := Lib.hid (by rw [hE2.out]; exact (b2.block sb (lt_of_block HW.out)).trans HW.out)
        have HG2 := Lib.hid (grown_trans HGR.out (grown_of_below b2 _))
        clear b2 c1 c2
        go_wp2_with fail
        go_end0
        exact ⟨rfl, HW2, HG2.out⟩
      | cls s i =>
        rw [he] at c2
        simp only [elV] at c2
        have M := m_rep63
        have hE2 : Hid (enter L S a = S') := Lib.hid (by rw [HE.out, loopE, if_neg]; rintro ⟨_, h⟩; rw [he] at h; cases h)
        clear he
        go_wp2_with fail
        refine (clsRep_any _ _ _).mono ?_
        rintro e w2 ⟨rfl, b2⟩
        have HW2 : Hid (w2.heap[sb]? = some (bools (enter L S a))) := Lib.hid (by rw [hE2.out]; exact (b2.block sb (lt_of_block HW.out)).trans HW.out)
        have HG2 := Lib.hid (grown_trans HGR.out (grown_of_below b2 _))
        clear b2 c1 c2
        go_wp2_with fail
        go_end0
        exact ⟨rfl, HW2, HG2.out⟩
    · obtain rfl : k = L.length := by omega
      have hE2 : Hid (enter L S a = S') := Lib.hid (by rw [HE.out, loopE, if_neg]; rintro ⟨h, _⟩; exact hlt h)
      have HW2 : Hid (wr.heap[sb]? = some (bools (enter L S a))) := Lib.hid (by rw [hE2.out]; exact HW.out)
      clear hp hk hlt
      go_wp2_with fail
      go_end0
      exact ⟨rfl, HW2, HGR.out⟩

end Go.Proofs.YtgnmanmlnbidfaaDoor
