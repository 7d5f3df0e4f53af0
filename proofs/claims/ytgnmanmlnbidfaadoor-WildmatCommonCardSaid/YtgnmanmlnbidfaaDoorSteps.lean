/- Wildmat: the steps of a pattern, by walks through their text. -/
import Derived.Test.YtgnmanmlnbidfaaDoorMat
import Derived.Laws.AppendOwnNone
import Derived.Maps.AppendAt
namespace Go.Proofs.YtgnmanmlnbidfaaDoor
open Go.RowKit

theorem own_em (v : Value) : v.ownBlock = none ∨ v.ownBlock ≠ none := Classical.em _

theorem step_end {L : List El} {a c : Nat} (h : L.length ≤ a) : stepF L a c = none := by rw [stepF, if_neg]; rintro ⟨h1, _⟩; omega
theorem step_no {L : List El} {a c : Nat} (h : (elAt L a).has c = false) : stepF L a c = none := by rw [stepF, if_neg]; rintro ⟨_, h2⟩; rw [h] at h2; cases h2
theorem step_yes {L : List El} {a c : Nat} (h : a < L.length) (h2 : (elAt L a).has c = true) : stepF L a c = some (if (elAt L a).isStar = true then a else a + 1) := by rw [stepF, if_pos ⟨h, h2⟩]

set_option maxRecDepth 100000 in
theorem step_any (B b a c : Nat) (txt : ByteArray) (L : List El) (A : Option Addr) (cap : Nat) (w : World) (hp : IsPat w B b txt L A cap) (hB : B ≤ w.heap.size) (ha : a ≤ L.length) (hc : c < 256) :
    Calls Tryd.prog 41 #[.pointer (some ⟨b, 0, none⟩), .int .i64 a, .int .u8 c] w fun e w' => e = .returned (.tuple #[.int .i64 ((stepF L a c).getD 0 : Nat), .bool (stepF L a c).isSome]) ∧ Below w.heap.size w w' := by
  have hlen := hp.len
  have c1 := hp.els
  have HP := Lib.hid hp
  by_cases hlt : a < L.length
  · obtain ⟨eb, off, hA, heb, c3⟩ := hp.at hlt
    subst hA
    have hbl := hp.lt
    have i1 : (a : Int) < (L.length : Int) := by omega
    have ca : ((a : Int) == (L.length : Int)) = false := by simp only [beq_eq_false_iff_ne, ne_eq]; omega
    have hst := fun h => step_yes (c := c) hlt h
    have hsn := fun h => step_no (L := L) (a := a) (c := c) h
    obtain ⟨T, v, fh, fr, PK⟩ := el_pack (elAt L a) (hp.small _ (elAt_mem hlt))
    generalize elAt L a = e at *
    rw [PK.val] at c3
    have h2 := PK.metH
    have h3 := PK.metR
    have h4 := PK.entH
    have h5 := PK.entR
    have HH := Lib.hid (PK.has c hc)
    have HR := Lib.hid PK.rep
    have HST := Lib.hid hst
    have HSN := Lib.hid hsn
    clear PK hp hst hsn
    obtain ⟨q, hq⟩ : ∃ q, e.has c = q := ⟨_, rfl⟩
    rw [hq] at HH
    have HQ := Lib.hid hq
    clear hq
    cases q with
    | false =>
      have E := Lib.hid (HSN.out HQ.out)
      go_enter Tryd.func41, Tryd.ntmps41
      go_wp2_with fail
      refine (HH.out _).mono ?_
      rintro e1 w2 ⟨rfl, b2⟩
      go_wp2_with fail
      go_ret2
      exact ⟨by rw [E.out]; rfl, b2⟩
    | true =>
      have E := Lib.hid (HST.out HQ.out)
      obtain ⟨q, hq⟩ : ∃ q, e.isStar = q := ⟨_, rfl⟩
      rw [hq] at HR E
      clear hq
      cases q with
      | true =>
        go_enter Tryd.func41, Tryd.ntmps41
        go_wp2_with fail
        refine (HH.out _).mono ?_
        rintro e1 w2 ⟨rfl, b2⟩
        have d1 := (b2.cell (p := ⟨b, 1, none⟩) (show b < w.heap.size by omega)).trans c1
        have d3 := (b2.cell (p := ⟨eb, off + a, none⟩) (show eb < w.heap.size by omega)).trans c3
        have B2 := Lib.hid b2
        clear b2 c1 c3
        go_wp2_with fail
        refine (HR.out _).mono ?_
        rintro e1 w3 ⟨rfl, b3⟩
        have B3 := Lib.hid (B2.out.trans (b3.mono B2.out.size))
        clear b3 d1 d3
        go_wp2_with fail
        go_ret2
        exact ⟨by rw [E.out]; rfl, B3.out⟩
      | false =>
        go_enter Tryd.func41, Tryd.ntmps41
        go_wp2_with fail
        refine (HH.out _).mono ?_
        rintro e1 w2 ⟨rfl, b2⟩
        have d1 := (b2.cell (p := ⟨b, 1, none⟩) (show b < w.heap.size by omega)).trans c1
        have d3 := (b2.cell (p := ⟨eb, off + a, none⟩) (show eb < w.heap.size by omega)).trans c3
        have B2 := Lib.hid b2
        clear b2 c1 c3
        go_wp2_with fail
        refine (HR.out _).mono ?_
        rintro e1 w3 ⟨rfl, b3⟩
        have B3 := Lib.hid (B2.out.trans (b3.mono B2.out.size))
        clear b3 d1 d3
        go_wp2_with fail
        go_ret2
        exact ⟨by rw [E.out]; rfl, B3.out⟩
  · obtain rfl : a = L.length := by omega
    have E := Lib.hid (step_end (L := L) (c := c) (Nat.le_refl _))
    clear hp hlt ha
    go_enter Tryd.func41, Tryd.ntmps41
    go_wp2_with fail
    go_ret2
    exact ⟨by rw [E.out]; rfl, Below.refl _ _⟩

/-- The positions that a position reaches without a character. -/
def freeG (L : List El) : Nat → Nat → List Nat
  | 0, a => [a]
  | n + 1, a => if a < L.length ∧ (elAt L a).isStar = true then a :: freeG L n (a + 1) else [a]

def freeL (L : List El) (a : Nat) : List Nat := freeG L (L.length - a) a

theorem free_star {L : List El} {a : Nat} (ha : a < L.length) (hs : (elAt L a).isStar = true) : freeL L a = a :: freeL L (a + 1) := by
  unfold freeL
  obtain ⟨n, hn⟩ : ∃ n, L.length - a = n + 1 := ⟨L.length - a - 1, by omega⟩
  rw [hn, freeG, if_pos ⟨ha, hs⟩, show L.length - (a + 1) = n by omega]

theorem free_stop {L : List El} {a : Nat} (h : L.length ≤ a ∨ (elAt L a).isStar = false) : freeL L a = [a] := by
  unfold freeL
  cases hn : L.length - a with
  | zero => rfl
  | succ n =>
    rw [freeG, if_neg]
    rintro ⟨h1, h2⟩
    rcases h with h | h
    · omega
    · rw [h] at h2; cases h2

theorem free_mem (L : List El) : ∀ (n a : Nat), L.length - a = n → a ≤ L.length → ∀ b, (b ∈ freeL L a ↔ Fr L a b) := by
  intro n
  induction n with
  | zero =>
    intro a hn ha b
    rw [free_stop (.inl (by omega)), List.mem_singleton]
    constructor
    · rintro rfl; exact Fr.refl ha
    · rintro ⟨h1, h2, _⟩; omega
  | succ n ih =>
    intro a hn ha b
    cases hs : (elAt L a).isStar with
    | true =>
      rw [free_star (by omega) hs, List.mem_cons, ih (a + 1) (by omega) (by omega)]
      constructor
      · rintro (rfl | ⟨h1, h2, h3⟩)
        · exact Fr.refl ha
        · refine ⟨by omega, h2, fun i h4 h5 => ?_⟩
          rcases Nat.lt_or_ge a i with h6 | h6
          · exact h3 i h6 h5
          · obtain rfl : i = a := by omega
            exact hs
      · rintro ⟨h1, h2, h3⟩
        rcases Nat.lt_or_ge a b with h6 | h6
        · exact .inr ⟨h6, h2, fun i h4 h5 => h3 i (by omega) h5⟩
        · exact .inl (by omega)
    | false =>
      rw [free_stop (.inr hs), List.mem_singleton]
      constructor
      · rintro rfl; exact Fr.refl ha
      · rintro ⟨h1, h2, h3⟩
        rcases Nat.lt_or_ge a b with h6 | h6
        · have := h3 a (Nat.le_refl _) h6
          rw [hs] at this; cases this
        · omega

theorem free_len (L : List El) : ∀ (n a : Nat), L.length - a = n → (freeL L a).length ≤ n + 1 := by
  intro n
  induction n with
  | zero => intro a hn; rw [free_stop (.inl (by omega))]; simp
  | succ n ih =>
    intro a hn
    cases hs : (elAt L a).isStar with
    | true => rw [free_star (by omega) hs]; have := ih (a + 1) (by omega); simp; omega
    | false => rw [free_stop (.inr hs)]; simp

def intV (n : Nat) : Value := .int .i64 (n : Nat)

theorem info3 : (Tryd.prog.info? 3).map (fun i => (i.zero, i.size, i.bytes)) = some (some (.int .i64 0), 1, 8) := by kernel_rfl

/-- What free leaves: a list of positions in new memory. -/
def FreePost (w : World) (l : List Nat) (e : Ending) (w' : World) : Prop :=
  ∃ g cap, e = .returned (.slice (some ⟨g, 0, none⟩) l.length cap) ∧ w.heap.size ≤ g ∧ Hid (∀ i, i < l.length → w'.cell? ⟨g, i, none⟩ = some (.int .i64 (l.getD i 0 : Nat))) ∧ Hid (Below w.heap.size w w')

theorem free_own {w : World} {base : Nat} {v : Value} {l : List Nat} (h : w.ownsRow base 3 1 v l.length (l.map intV)) (h0 : l ≠ []) :
    ∃ g cap, v = .slice (some ⟨g, 0, none⟩) l.length cap ∧ base ≤ g ∧ ∀ i, i < l.length → w.cell? ⟨g, i, none⟩ = some (.int .i64 (l.getD i 0 : Nat)) := by
  rcases h.2 with ⟨_, h1⟩ | ⟨g, cap, cur, rfl, hg, hh, _⟩
  · exact absurd (List.eq_nil_of_length_eq_zero h1) h0
  · refine ⟨g, cap, rfl, hg, fun i hi => ?_⟩
    have h1 := h.cells rfl i (.int .i64 (l.getD i 0 : Nat)) (by rw [List.getElem?_map, List.getElem?_eq_getElem hi, List.getD_eq_getElem?_getD, List.getElem?_eq_getElem hi]; rfl)
    have hadd : ∀ j, (⟨g, 0, none⟩ : Addr).add j = ⟨g, 0 + j, none⟩ := fun j => by unfold Addr.add; split <;> simp_all
    rw [hadd, Nat.zero_add] at h1
    exact h1

set_option maxRecDepth 100000 in
set_option maxHeartbeats 1000000 in
theorem free_any (B b a : Nat) (txt : ByteArray) (L : List El) (A : Option Addr) (cap : Nat) (w : World) (hp : IsPat w B b txt L A cap) (hB : B ≤ w.heap.size) (ha : a ≤ L.length) :
    Calls Tryd.prog 52 #[.pointer (some ⟨b, 0, none⟩), .int .i64 a] w (FreePost w (freeL L a)) := by
  have hlen := hp.len
  have HP := Lib.hid hp
  obtain ⟨i0, hi, hz0, hz1, hz2⟩ := info_parts info3
  have Hi := Lib.hid hi
  have Z0 := Lib.hid hz0
  have Z1 := Lib.hid hz1
  have Z2 := Lib.hid hz2
  clear hi hz0 hz1 hz2 hp
  go_enter Tryd.func52, Tryd.ntmps52
  go_wp2_with fail
  obtain ⟨W, hW⟩ : ∃ W, w.alloc (.cells #[.int .i64 (a : Nat)] 3) = W := ⟨_, rfl⟩
  have HB0 : Hid (Below w.heap.size w W) := Lib.hid (by rw [← hW]; exact (Below.refl _ _).alloc (Nat.le_refl _) _)
  have HO0 : Hid (W.ownsRow w.heap.size 3 1 (.slice (some ⟨w.heap.size, 0, none⟩) 1 1) 1 ([a].map intV)) := Lib.hid (by
    rw [← hW]
    exact ⟨rfl, .inr ⟨w.heap.size, 1, #[.int .i64 (a : Nat)], rfl, Nat.le_refl _, heap_alloc_new _ _, Nat.le_refl _, by unfold maxLen; omega, rfl, rfl⟩⟩)
  rw [hW]
  clear hW
  go_loopw [1, 5] (fun va vo wr => ∃ (k : Nat) (acc : List Nat), a ≤ k ∧ k ≤ L.length ∧ va = .int .i64 k ∧ Hid (acc.length ≤ k - a + 1) ∧ Hid (acc ++ (freeL L k).tail = freeL L a ∧ acc ≠ []) ∧ Hid (wr.ownsRow w.heap.size 3 1 vo acc.length (acc.map intV)) ∧ Hid (Below w.heap.size w wr)) (fun va _ _ => (L.length - intOf va).toNat)
  case atStart =>
    refine ⟨a, [a], by omega, by omega, rfl, Lib.hid (by simp), Lib.hid ⟨?_, by simp⟩, HO0, HB0⟩
    rcases Nat.lt_or_ge a L.length with h | h
    · cases hs : (elAt L a).isStar with
      | true => rw [free_star h hs]; rfl
      | false => rw [free_stop (.inr hs)]; rfl
    · rw [free_stop (.inl h)]; rfl
  case round =>
    obtain ⟨k, acc, hak, hk, rfl, HA, HF, HO, HB⟩ := hrel
    have hp := HP.out.below (HB.out.mono hB)
    have c1 := hp.els
    by_cases hlt : k < L.length
    · obtain ⟨eb, off, hA, heb, c3⟩ := hp.at hlt
      subst hA
      have hbl := hp.lt
      have i1 : (k : Int) < (L.length : Int) := by omega
      have hfs := fun h => free_star hlt h
      have hfn := fun h => free_stop (L := L) (a := k) (.inr h)
      obtain ⟨T, v, fh, fr, PK⟩ := el_pack (elAt L k) (hp.small _ (elAt_mem hlt))
      generalize elAt L k = e at *
      rw [PK.val] at c3
      have h3 := PK.metR
      have h5 := PK.entR
      have HR := Lib.hid PK.rep
      have HFS := Lib.hid hfs
      have HFN := Lib.hid hfn
      clear PK hp hfs hfn
      obtain ⟨q, hq⟩ : ∃ q, e.isStar = q := ⟨_, rfl⟩
      rw [hq] at HR
      have HQ := Lib.hid hq
      clear hq
      cases q with
      | true =>
        go_wp2_with fail
        refine (HR.out _).mono ?_
        rintro e1 w2 ⟨rfl, b2⟩
        have HB2 := Lib.hid (HB.out.trans (b2.mono HB.out.size))
        have HO2 := Lib.hid (HO.out.kept (grown_of_below b2 none) (own_em _))
        clear b2 c1 c3
        have OW := HO2.out.alloc (.cells #[.int .i64 ((k : Int) + 1)] 3)
        go_wp2_with (at_builtin; refine wpList_append_own _ rfl _ _ 110 rfl w.heap.size 3 i0 (.int .i64 0) 1 8 Tryd.underlying110 Hi.out Z0.out Z1.out Z2.out rfl (by decide) _ acc.length (acc.map intV) rfl OW ⟨w2.heap.size, 0, none⟩ 1 1 [.int .i64 ((k : Int) + 1)] rfl rfl ?c1 ?c2 ?c3 ?c4 ?c5 ?_)
        case c1 => exact cell_one_new _ _ _
        case c2 => intro u hu; simp at hu; subst hu; rfl
        case c3 => unfold maxLen; have := HA.out; omega
        case c4 => have := HA.out; omega
        case c5 => have := HB2.out.size; simp; omega
        intro v1 w1 hown1 hg1 _
        have HB3 := Lib.hid ((HB2.out.alloc HB2.out.size _).grown hg1 (by have := HB2.out.size; simp; omega) (fun j h => (HO2.out.lt j h).1))
        have HO3 : Hid (w1.ownsRow w.heap.size 3 1 v1 (acc ++ [k + 1]).length ((acc ++ [k + 1]).map intV)) := Lib.hid (by
          rw [List.map_append, List.length_append]
          exact hown1)
        have HF3 : Hid ((acc ++ [k + 1]) ++ (freeL L (k + 1)).tail = freeL L a ∧ acc ++ [k + 1] ≠ []) := Lib.hid ⟨by
          rw [← HF.out.1, HFS.out HQ.out, List.append_assoc]
          congr 1
          rcases Nat.lt_or_ge (k + 1) L.length with h | h
          · cases hs : (elAt L (k + 1)).isStar with
            | true => rw [free_star h hs]; rfl
            | false => rw [free_stop (.inr hs)]; rfl
          · rw [free_stop (.inl h)]; rfl, by simp⟩
        clear hown1 hg1 OW
        go_wp2_with fail
        go_roundw
        case measure => simp [intOf]; omega
        case rel => exact ⟨k + 1, acc ++ [k + 1], by omega, by omega, by go_num, Lib.hid (by have := HA.out; simp; omega), HF3, HO3, HB3⟩
      | false =>
        go_wp2_with fail
        refine (HR.out _).mono ?_
        rintro e1 w2 ⟨rfl, b2⟩
        have HB2 := Lib.hid (HB.out.trans (b2.mono HB.out.size))
        have HO2 := Lib.hid (HO.out.kept (grown_of_below b2 none) (own_em _))
        have HFA : Hid (acc = freeL L a) := Lib.hid (by rw [← HF.out.1, HFN.out HQ.out]; simp)
        clear b2 c1 c3
        go_wp2_with fail
        go_ret
        obtain ⟨g, cp, hv, hg, hc⟩ := free_own HO2.out HF.out.2
        rw [← HFA.out]
        exact ⟨g, cp, by rw [← hv]; rfl, hg, Lib.hid hc, HB2⟩
    · obtain rfl : k = L.length := by omega
      have HFA : Hid (acc = freeL L a) := Lib.hid (by rw [← HF.out.1, free_stop (.inl (Nat.le_refl _))]; simp)
      clear hp hlt hk
      go_wp2_with fail
      go_ret
      obtain ⟨g, cp, hv, hg, hc⟩ := free_own HO.out HF.out.2
      rw [← HFA.out]
      exact ⟨g, cp, by rw [← hv]; rfl, hg, Lib.hid hc, HB⟩

end Go.Proofs.YtgnmanmlnbidfaaDoor
