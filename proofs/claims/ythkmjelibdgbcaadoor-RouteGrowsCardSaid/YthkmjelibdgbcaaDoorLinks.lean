/- Route: Links at the example's route, by a walk through its text. -/
import Derived.Test.YthkmjelibdgbcaaDoorRParse
import Derived.Laws.Tables
import Derived.Maps.Own
import Derived.Maps.Views
import Derived.DeepKeys4
import Derived.Maps.Keyed
import Derived.BigRegion
namespace Go.Proofs.YthkmjelibdgbcaaDoor
open Go.RowKit Go.Maps

theorem laidOut : laidOutB Tryd.prog = true := by kernel_rfl
theorem law56 : Keyed Tryd.prog 56 := Keyed.of_law (deep_law_laid laidOut (m := 2) (by omega) (of_decide_eq_true (by kernel_rfl)) (by kernel_rfl) (by rw [Tryd.underlying56]))
theorem zero4 (w : World) : (zeroValue 4).run Tryd.prog w = .ok (.bool false) w := by kernel_rfl
def keyAB : Value := .agg #[.string ⟨#[97]⟩, .string ⟨#[98]⟩]
def keyBC : Value := .agg #[.string ⟨#[98]⟩, .string ⟨#[99]⟩]
noncomputable def litAB : Lit := (keyOf Tryd.prog 56 keyAB).getD .nil
noncomputable def litBC : Lit := (keyOf Tryd.prog 56 keyBC).getD .nil
theorem kAB : keyOf Tryd.prog 56 keyAB = some litAB := by kernel_rfl
theorem kBC : keyOf Tryd.prog 56 keyBC = some litBC := by kernel_rfl
theorem lit_ne : litBC ≠ litAB := by
  intro h
  have h1 : litBC.sameKey litAB = false := by kernel_rfl
  have h2 : litAB.sameKey litAB = true := by kernel_rfl
  rw [h, h2] at h1
  cases h1

theorem bool_inv {v : Value} {x : Bool} {ps : List MemPlace} (h : plainElem (H := Unit) Tryd.prog 4 v = some (.lit (.bool x), ps)) : v = .bool x := by
  unfold plainElem at h
  rw [Tryd.underlying4] at h
  cases v <;> simp at h
  rw [h.1]

theorem info56 : (Tryd.prog.info? 56).map (fun i => (i.zero, i.size, i.bytes)) = some (some (.agg #[.string ⟨#[]⟩, .string ⟨#[]⟩]), 2, 32) := by kernel_rfl

theorem make63 (w : World) : (Instr.makeMap 63 none).run Tryd.prog w = .ok (.map (some w.heap.size)) (w.alloc (.map #[] 0)) := rfl

theorem Links_abc (b o ca : Nat) (w : World) (hb : b < w.heap.size) (h0 : w.cell? ⟨b, o, none⟩ = some (.string ⟨#[99]⟩)) (h1 : w.cell? ⟨b, o + 1, none⟩ = some (.string ⟨#[98]⟩)) (h2 : w.cell? ⟨b, o + 2, none⟩ = some (.string ⟨#[97]⟩)) :
    Calls Tryd.prog 30 #[.slice (some ⟨b, o, none⟩) 3 ca] w fun e w' => ∃ g cap, e = .returned (.slice (some ⟨g, 0, none⟩) 2 cap) ∧ Below w.heap.size w w' ∧ w'.cell? ⟨g, 0, none⟩ = some (.string ⟨#[97]⟩) ∧ w'.cell? ⟨g, 1, none⟩ = some (.string ⟨#[98]⟩) ∧ w'.cell? ⟨g, 2, none⟩ = some (.string ⟨#[98]⟩) ∧ w'.cell? ⟨g, 3, none⟩ = some (.string ⟨#[99]⟩) := by
  have H0 := Lib.hid h0
  have H1 := Lib.hid h1
  have H2 := Lib.hid h2
  clear h0 h1 h2
  have hmm := make63
  go_enter Tryd.func30, Tryd.ntmps30
  go_wp2_with fail
  refine wp_loop_rounds 3 ?_
  rw [rounds_succ]
  obtain ⟨w1, hw1⟩ : ∃ w1, w.alloc (.map #[] 0) = w1 := ⟨_, rfl⟩
  have hm : w1.heap[w.heap.size]? = some (.map #[] 0) := by rw [← hw1]; exact heap_alloc_new w _
  have B1 : Below w.heap.size w w1 := by rw [← hw1]; exact (Below.refl _ _).alloc (Nat.le_refl _) _
  rw [hw1]
  have h0 := (B1.cell (p := ⟨b, o, none⟩) hb).trans H0.out
  have h1 := (B1.cell (p := ⟨b, o + 1, none⟩) hb).trans H1.out
  have h2 := (B1.cell (p := ⟨b, o + 2, none⟩) hb).trans H2.out
  have BZ : Below w.heap.size w (w1.alloc (.cells #[.string ⟨#[]⟩, .string ⟨#[]⟩] 56)) := B1.alloc B1.size _
  have z0 := (BZ.cell (p := ⟨b, o, none⟩) hb).trans H0.out
  have z1 := (BZ.cell (p := ⟨b, o + 1, none⟩) hb).trans H1.out
  have z2 := (BZ.cell (p := ⟨b, o + 2, none⟩) hb).trans H2.out
  have zh : (w1.alloc (.cells #[.string ⟨#[]⟩, .string ⟨#[]⟩] 56)).heap[w1.heap.size]? = some (.cells #[.string ⟨#[]⟩, .string ⟨#[]⟩] 56 (0, 0)) := heap_alloc_new w1 _
  have x0 : (w1.alloc (.cells #[.string ⟨#[]⟩, .string ⟨#[]⟩] 56)).cell? ⟨w1.heap.size, 0, none⟩ = some (.string ⟨#[]⟩) := by simp only [World.cell?, zh]; rfl
  have x1 : (w1.alloc (.cells #[.string ⟨#[]⟩, .string ⟨#[]⟩] 56)).cell? ⟨w1.heap.size, 1, none⟩ = some (.string ⟨#[]⟩) := by simp only [World.cell?, zh]; rfl
  go_wp2_with fail
  go_region
  obtain ⟨w2, hw2⟩ : ∃ w2, (w1.alloc (.cells #[.string ⟨#[97]⟩, .string ⟨#[98]⟩] 56)).drew = w2 := ⟨_, rfl⟩
  have om1 : w1.ownsMap Tryd.prog 56 (plainElem (H := Unit) Tryd.prog 4) w.heap.size 0 (.map []) := by rw [← hw1]; exact World.ownsMap_made _ _ _ _
  have om2 : w2.ownsMap Tryd.prog 56 (plainElem (H := Unit) Tryd.prog 4) w.heap.size 0 (.map []) := by rw [← hw2]; exact (om1.alloc _).drew
  have B2 : Below w.heap.size w w2 := by rw [← hw2]; exact (B1.alloc B1.size _).drew
  have hk2 : w2.heap[w1.heap.size]? = some (.cells #[.string ⟨#[97]⟩, .string ⟨#[98]⟩] 56 (0, 0)) := by rw [← hw2]; exact heap_alloc_new w1 _
  have hs2 : Hid (w2.heap.size = w1.heap.size + 1) := Lib.hid (by rw [← hw2]; simp)
  obtain ⟨v2, p2, hl2, hv2⟩ := om2.lookup law56 Tryd.underlying63 (zero4 _) (plainElem_bool Tryd.underlying4 false) kAB
  obtain rfl := bool_inv hv2
  have y0 : w2.cell? ⟨w1.heap.size, 0, none⟩ = some (.string ⟨#[97]⟩) := by simp only [World.cell?, hk2]; rfl
  have y1 : w2.cell? ⟨w1.heap.size, 1, none⟩ = some (.string ⟨#[98]⟩) := by simp only [World.cell?, hk2]; rfl
  have hne : ((⟨#[97]⟩ : ByteArray).toList == (⟨#[98]⟩ : ByteArray).toList) = false := by rw [ByteArray.toList_mk, ByteArray.toList_mk]; rfl
  rw [hw2]
  clear hw2 zh x0 x1 z0 z1 z2 BZ h0 h1 h2
  simp only [keyAB] at hl2
  obtain ⟨i0, hi, hz0, hz1, hz2⟩ := info_parts info56
  have Hi := Lib.hid hi
  have Z0 := Lib.hid hz0
  have Z1 := Lib.hid hz1
  have Z2 := Lib.hid hz2
  clear hi hz0 hz1 hz2
  go_wp2_with (at_mapUpdate; refine wpList_mapUpdate_own _ rfl _ _ _ 63 rfl 56 4 law56 Tryd.underlying63 _ w.heap.size 0 _ rfl om2 (by unfold maxLen; omega) keyAB (.bool true) litAB rfl rfl kAB (.lit (.bool true)) [] (plainElem_bool Tryd.underlying4 true) ?_)
  intro w3 om3 g3
  have B3 : Below w.heap.size w w3 := B2.grown g3 B2.size (fun j e => by cases e; exact Nat.le_refl _)
  have hs12 : w1.heap.size < w2.heap.size := by rw [hs2.out]; omega
  have hw1s : w1.heap.size = w.heap.size + 1 := by rw [← hw1]; simp
  have hk3 : w3.heap[w1.heap.size]? = some (.cells #[.string ⟨#[97]⟩, .string ⟨#[98]⟩] 56 (0, 0)) := (g3.block _ hs12 (by intro e; have := Option.some.inj e; omega)).trans hk2
  have hs3 : w1.heap.size + 1 ≤ w3.heap.size := by have := g3.size; rw [hs2.out] at this; exact this
  have HW1 := Lib.hid hw1s
  have y0 : w3.cell? ⟨w1.heap.size, 0, none⟩ = some (.string ⟨#[97]⟩) := by simp only [World.cell?, hk3]; rfl
  have y1 : w3.cell? ⟨w1.heap.size, 1, none⟩ = some (.string ⟨#[98]⟩) := by simp only [World.cell?, hk3]; rfl
  clear hw1s hk2 hs12 g3 hl2 om2 hv2 hm hw1
  have oN : (w3.alloc (.cells #[.string ⟨#[97]⟩, .string ⟨#[98]⟩] 56)).ownsRow (w1.heap.size + 1) 56 2 (.slice none 0 0) 0 [] := World.ownsRow_nil _ _ _ _
  have hnew : (w3.alloc (.cells #[.string ⟨#[97]⟩, .string ⟨#[98]⟩] 56)).heap[w3.heap.size]? = some (.cells #[.string ⟨#[97]⟩, .string ⟨#[98]⟩] 56 (0, 0)) := heap_alloc_new w3 _
  have HNEW := Lib.hid hnew
  clear hnew
  go_wp2_with (at_builtin; refine wpList_append_own _ rfl _ _ 54 rfl (w1.heap.size + 1) 56 i0 (.agg #[.string ⟨#[]⟩, .string ⟨#[]⟩]) 2 32 Tryd.underlying54 Hi.out Z0.out Z1.out Z2.out rfl (by decide) _ 0 [] rfl oN ⟨w3.heap.size, 0, none⟩ 1 1 [.string ⟨#[97]⟩, .string ⟨#[98]⟩] rfl rfl ?c1 ?c2 ?c3 ?c4 ?c5 ?_)
  case c1 => exact World.news_of_block HNEW.out
  case c2 => intro u hu; simp at hu; rcases hu with rfl | rfl <;> rfl
  case c3 => unfold maxLen; omega
  case c4 => omega
  case c5 => simp; omega
  intro v4 w4 o4 g4 _
  have B4 : Below w.heap.size w w4 := (B3.alloc B3.size _).grown g4 (by simp; have := B3.size; omega) (fun j e => by simp [Value.ownBlock] at e)
  have om4 := (om3.alloc (.cells #[.string ⟨#[97]⟩, .string ⟨#[98]⟩] 56)).kept g4 (by simp [Value.ownBlock])
  have hs4 : w1.heap.size + 1 ≤ w4.heap.size := by have := g4.size; simp at this; omega
  have hform : ∃ g cap, v4 = .slice (some ⟨g, 0, none⟩) 1 cap := by
    rcases o4.2 with ⟨_, h⟩ | ⟨g, cap, cur, hv, _⟩
    · cases h
    · exact ⟨g, cap, hv⟩
  obtain ⟨g, cap, rfl⟩ := hform
  have G4 := o4.lt
  have O4 := Lib.hid o4
  have OM4 := Lib.hid om4
  have BB4 := Lib.hid B4
  have HS4 := Lib.hid hs4
  clear o4 om4 B4 hs4 g4 om3 B3 hk3 hs3 y0 y1 oN HNEW B2 hs2 B1 hne
  go_wp2_with fail
  rw [rounds_succ]
  obtain ⟨W4, hW4⟩ : ∃ n, w4.heap.size = n := ⟨_, rfl⟩
  have HW4 := Lib.hid hW4
  clear hW4 om1 y0 y1
  have q0 := (BB4.out.cell (p := ⟨b, o, none⟩) hb).trans H0.out
  have q1 := (BB4.out.cell (p := ⟨b, o + 1, none⟩) hb).trans H1.out
  have BZ : Below w.heap.size w (w4.alloc (.cells #[.string ⟨#[]⟩, .string ⟨#[]⟩] 56)) := BB4.out.alloc BB4.out.size _
  have z0 := (BZ.cell (p := ⟨b, o, none⟩) hb).trans H0.out
  have z1 := (BZ.cell (p := ⟨b, o + 1, none⟩) hb).trans H1.out
  have zh : (w4.alloc (.cells #[.string ⟨#[]⟩, .string ⟨#[]⟩] 56)).heap[w4.heap.size]? = some (.cells #[.string ⟨#[]⟩, .string ⟨#[]⟩] 56 (0, 0)) := heap_alloc_new w4 _
  have x0 : (w4.alloc (.cells #[.string ⟨#[]⟩, .string ⟨#[]⟩] 56)).cell? ⟨w4.heap.size, 0, none⟩ = some (.string ⟨#[]⟩) := by simp only [World.cell?, zh]; rfl
  have x1 : (w4.alloc (.cells #[.string ⟨#[]⟩, .string ⟨#[]⟩] 56)).cell? ⟨w4.heap.size, 1, none⟩ = some (.string ⟨#[]⟩) := by simp only [World.cell?, zh]; rfl
  go_wp2_with fail
  go_region
  obtain ⟨w5, hw5⟩ : ∃ w5, (w4.alloc (.cells #[.string ⟨#[98]⟩, .string ⟨#[99]⟩] 56)).drew = w5 := ⟨_, rfl⟩
  have om5 : w5.ownsMap Tryd.prog 56 (plainElem (H := Unit) Tryd.prog 4) w.heap.size 1 ((DataW.map []).put litAB (.lit (.bool true))) := by rw [← hw5]; exact (OM4.out.alloc _).drew
  have B5 : Below w.heap.size w w5 := by rw [← hw5]; exact (BB4.out.alloc BB4.out.size _).drew
  have hk5 : w5.heap[w4.heap.size]? = some (.cells #[.string ⟨#[98]⟩, .string ⟨#[99]⟩] 56 (0, 0)) := by rw [← hw5]; exact heap_alloc_new w4 _
  have hs5 : Hid (w5.heap.size = w4.heap.size + 1) := Lib.hid (by rw [← hw5]; simp)
  have o5 : w5.ownsRow (w1.heap.size + 1) 56 2 (.slice (some ⟨g, 0, none⟩) 1 cap) 1 [.string ⟨#[97]⟩, .string ⟨#[98]⟩] := by rw [← hw5]; exact (O4.out.alloc _)
  obtain ⟨v5, p5, hl5, hv5⟩ := om5.lookup law56 Tryd.underlying63 (zero4 _) (plainElem_bool Tryd.underlying4 false) kBC
  rw [atKey_put_other lit_ne] at hv5
  obtain rfl := bool_inv hv5
  have y0 : w5.cell? ⟨w4.heap.size, 0, none⟩ = some (.string ⟨#[98]⟩) := by simp only [World.cell?, hk5]; rfl
  have y1 : w5.cell? ⟨w4.heap.size, 1, none⟩ = some (.string ⟨#[99]⟩) := by simp only [World.cell?, hk5]; rfl
  have hne : ((⟨#[98]⟩ : ByteArray).toList == (⟨#[99]⟩ : ByteArray).toList) = false := by rw [ByteArray.toList_mk, ByteArray.toList_mk]; rfl
  rw [hw5]
  clear q0 q1 hw5 zh x0 x1 z0 z1 BZ
  simp only [keyBC] at hl5
  go_wp2_with (at_mapUpdate; refine wpList_mapUpdate_own _ rfl _ _ _ 63 rfl 56 4 law56 Tryd.underlying63 _ w.heap.size 1 _ rfl om5 (by unfold maxLen; omega) keyBC (.bool true) litBC rfl rfl kBC (.lit (.bool true)) [] (plainElem_bool Tryd.underlying4 true) ?_)
  intro w6 om6 g6
  have B6 : Below w.heap.size w w6 := B5.grown g6 B5.size (fun j e => by cases e; exact Nat.le_refl _)
  have hs45 : w4.heap.size < w5.heap.size := by rw [hs5.out]; omega
  have hb4 : w.heap.size < w4.heap.size := by have := HS4.out; rw [HW1.out] at this; omega
  have hk6 : w6.heap[w4.heap.size]? = some (.cells #[.string ⟨#[98]⟩, .string ⟨#[99]⟩] 56 (0, 0)) := (g6.block _ hs45 (by intro e; have := Option.some.inj e; omega)).trans hk5
  have y0 : w6.cell? ⟨w4.heap.size, 0, none⟩ = some (.string ⟨#[98]⟩) := by simp only [World.cell?, hk6]; rfl
  have y1 : w6.cell? ⟨w4.heap.size, 1, none⟩ = some (.string ⟨#[99]⟩) := by simp only [World.cell?, hk6]; rfl
  have o6 : w6.ownsRow (w1.heap.size + 1) 56 2 (.slice (some ⟨g, 0, none⟩) 1 cap) 1 [.string ⟨#[97]⟩, .string ⟨#[98]⟩] := by
    obtain ⟨h1, h2⟩ := o5
    refine ⟨h1, ?_⟩
    rcases h2 with h2 | ⟨g', cap', cur, hv, hg, hh, r⟩
    · exact .inl h2
    · exact .inr ⟨g', cap', cur, hv, hg, (g6.block g' (lt_of_block hh) (by intro e; have := Option.some.inj e; have := HW1.out; omega)).trans hh, r⟩
  have hs6 : w1.heap.size + 1 ≤ w6.heap.size := by have := g6.size; have := HS4.out; omega
  have HK6 := Lib.hid hk6
  clear hk6 hs45 g6 hl5 om5 om6 hv5 hk5 hs5 B5 o5
  have oN := o6.alloc (.cells #[.string ⟨#[98]⟩, .string ⟨#[99]⟩] 56)
  have hnew : (w6.alloc (.cells #[.string ⟨#[98]⟩, .string ⟨#[99]⟩] 56)).heap[w6.heap.size]? = some (.cells #[.string ⟨#[98]⟩, .string ⟨#[99]⟩] 56 (0, 0)) := heap_alloc_new w6 _
  have HNEW := Lib.hid hnew
  clear hnew
  go_wp2_with (at_builtin; refine wpList_append_own _ rfl _ _ 54 rfl (w1.heap.size + 1) 56 i0 (.agg #[.string ⟨#[]⟩, .string ⟨#[]⟩]) 2 32 Tryd.underlying54 Hi.out Z0.out Z1.out Z2.out rfl (by decide) _ 1 [.string ⟨#[97]⟩, .string ⟨#[98]⟩] rfl oN ⟨w6.heap.size, 0, none⟩ 1 1 [.string ⟨#[98]⟩, .string ⟨#[99]⟩] rfl rfl ?c1 ?c2 ?c3 ?c4 ?c5 ?_)
  case c1 => exact World.news_of_block HNEW.out
  case c2 => intro u hu; simp at hu; rcases hu with rfl | rfl <;> rfl
  case c3 => unfold maxLen; omega
  case c4 => omega
  case c5 => simp; omega
  intro v7 w7 o7 g7 _
  have B7 : Below w.heap.size w w7 := (B6.alloc B6.size _).grown g7 (by simp; have := B6.size; omega) (fun j e => by have := (o6.lt j e).1; have := HW1.out; omega)
  have hform : ∃ g cap, v7 = .slice (some ⟨g, 0, none⟩) 2 cap := by
    rcases o7.2 with ⟨_, h⟩ | ⟨g, cap, cur, hv, _⟩
    · cases h
    · exact ⟨g, cap, hv⟩
  obtain ⟨g', cap', rfl⟩ := hform
  have C7 := o7.cells (g := g') rfl
  have c0 := Lib.hid (C7 0 _ rfl)
  have c1 := Lib.hid (C7 1 _ rfl)
  have c2 := Lib.hid (C7 2 _ rfl)
  have c3 := Lib.hid (C7 3 _ rfl)
  have B7 := Lib.hid B7
  clear C7 o7 g7 oN HNEW o6 B6 y0 y1 hne
  go_wp2_with fail
  rw [rounds_succ]
  go_wp2_with fail
  go_ret
  exact ⟨g', cap', rfl, B7.out, c0.out, c1.out, c2.out, c3.out⟩

end Go.Proofs.YthkmjelibdgbcaaDoor
