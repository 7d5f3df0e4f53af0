/- Wildmat: reach, by a walk through its text. -/
import Derived.Test.YtgnmanmlnbidfaaDoorMapF
import Derived.Test.YtgnmanmlnbidfaaDoorSteps
import Derived.Deep.RegionWith
import Derived.StillTailTactics
import Derived.Deep.RegionHeld3
namespace Go.Proofs.YtgnmanmlnbidfaaDoor
open Go.RowKit Go.Maps

def better (text : ByteArray) : Option ByteArray → ByteArray
  | none => text
  | some old => if Op.bytesLess text.toList old.toList = true then text else old

/-- What a visit of a pair makes of a level. -/
def visit (G : PF) (text : ByteArray) (F : PF) (a c : Nat) : PF := if (G a c).isSome = true then F else putF F a c (better text (F a c))
def visits (G : PF) (text : ByteArray) (F : PF) (a : Nat) (lc : List Nat) : PF := lc.foldl (fun F c => visit G text F a c) F
/-- What reach makes of a level. -/
def reachF (F G : PF) (P Q : List El) (i k : Nat) (text : ByteArray) : PF := (freeL P i).foldl (fun F a => visits G text F a (freeL Q k)) F

theorem putF_same {F : PF} {a c : Nat} {s : ByteArray} (h : F a c = some s) : putF F a c s = F := by
  funext x y
  unfold putF
  split
  · rename_i hxy
    obtain ⟨rfl, rfl⟩ := hxy
    exact h.symm
  · rfl

theorem fold_next {α β : Type} (f : α → β → α) (z : α) (l : List β) (d : β) {u : Nat} (h : u < l.length) : (l.take (u + 1)).foldl f z = f ((l.take u).foldl f z) (l.getD u d) := by
  rw [List.take_succ_eq_append_getElem h, List.foldl_append]
  simp [List.getD_eq_getElem?_getD, h]

/-- The search in memory. -/
structure IsSearch (w : World) (sb pb qb fb : Nat) : Prop where
  p : w.cell? ⟨sb, 0, none⟩ = some (.pointer (some ⟨pb, 0, none⟩))
  q : w.cell? ⟨sb, 1, none⟩ = some (.pointer (some ⟨qb, 0, none⟩))
  f : w.cell? ⟨sb, 2, none⟩ = some (.map (some fb))

theorem IsSearch.kept {w w' : World} {sb pb qb fb : Nat} {row : Option Nat} (h : IsSearch w sb pb qb fb) (hg : w.grownBy w' row) (hne : some sb ≠ row) : IsSearch w' sb pb qb fb :=
  ⟨hg.cell h.p hne, hg.cell h.q hne, hg.cell h.f hne⟩

theorem IsPat.kept {w w' : World} {B b : Nat} {txt : ByteArray} {L : List El} {A : Option Addr} {cap : Nat} {row : Option Nat} (h : IsPat w B b txt L A cap) (hg : w.grownBy w' row) (hB : B ≤ w.heap.size) (hr : ∀ j, row = some j → B ≤ j) : IsPat w' B b txt L A cap :=
  h.below ((Below.refl B w).grown hg hB hr)

theorem cell_heap {w w' : World} (e : w'.heap = w.heap) (a : Addr) : w'.cell? a = w.cell? a := by unfold World.cell?; rw [e]

theorem IsPat.heap {w w' : World} {B b : Nat} {txt : ByteArray} {L : List El} {A : Option Addr} {cap : Nat} (h : IsPat w B b txt L A cap) (e : w'.heap = w.heap) : IsPat w' B b txt L A cap :=
  ⟨h.lt, (cell_heap e _).trans h.text, (cell_heap e _).trans h.els, by
    rcases h.reads with h1 | ⟨b, off, h1, h2, h3⟩
    · exact .inl h1
    · exact .inr ⟨b, off, h1, h2, fun i hi => (cell_heap e _).trans (h3 i hi)⟩, h.small, h.ok, h.len⟩

theorem free_le {L : List El} {a : Nat} (ha : a ≤ L.length) {b : Nat} (hb : b ∈ freeL L a) : b ≤ L.length := ((free_mem L _ a rfl ha b).1 hb).2.1

theorem getD_mem {l : List Nat} {u : Nat} (h : u < l.length) : l.getD u 0 ∈ l := by
  rw [List.getD_eq_getElem?_getD, List.getElem?_eq_getElem h]; exact List.getElem_mem h

set_option maxRecDepth 100000 in
set_option maxHeartbeats 4000000 in
theorem reach_any (B sb pb qb fb lb i k : Nat) (P Q : List El) (tp tq : ByteArray) (AP AQ : Option Addr) (cp cq : Nat) (text : ByteArray) (F G : PF) (w : World)
    (hs : IsSearch w sb pb qb fb) (hP : IsPat w B pb tp P AP cp) (hQ : IsPat w B qb tq Q AQ cq) (hF : MapF w lb F) (hG : MapF w fb G) (hne : fb ≠ lb) (hsl : sb ≠ lb) (hB : B ≤ w.heap.size) (hBl : B ≤ lb) (hi : i ≤ P.length) (hk : k ≤ Q.length) (ht : text.size ≤ 100000) :
    Calls Tryd.prog 40 #[.pointer (some ⟨sb, 0, none⟩), .map (some lb), pairV i k, .string text] w fun e w' => e = .returned (.tuple #[]) ∧ Hid (MapF w' lb (reachF F G P Q i k text)) ∧ w.grownBy w' (some lb) := by
  have hPl := hP.len
  have hQl := hQ.len
  have HPP := Lib.hid hP
  have HQQ := Lib.hid hQ
  have HFF := Lib.hid hF
  have HGG := Lib.hid hG
  have HSS := Lib.hid hs
  have hl1 := free_len P _ i rfl
  have hl2 := free_len Q _ k rfl
  have hm1 : Hid (∀ b ∈ freeL P i, b ≤ P.length) := Lib.hid (fun b hb => free_le hi hb)
  have hm2 : Hid (∀ b ∈ freeL Q k, b ≤ Q.length) := Lib.hid (fun b hb => free_le hk hb)
  have HRF : Hid (reachF F G P Q i k text = (freeL P i).foldl (fun F a => visits G text F a (freeL Q k)) F) := Lib.hid rfl
  have hlb := hF.lt
  have hfb := hG.lt
  have hslt : sb < w.heap.size := World.block_lt_of_cell? w _ hs.p
  obtain ⟨W1, hW1⟩ : ∃ W1, w.alloc (.cells #[.int .i64 (i : Nat), .int .i64 (k : Nat)] 86) = W1 := ⟨_, rfl⟩
  have hg1 : w.grownBy W1 none := by rw [← hW1]; exact World.grownBy_alloc _ _ _
  have hx0 : W1.cell? ⟨w.heap.size, 0, none⟩ = some (.int .i64 (i : Nat)) ∧ W1.cell? ⟨w.heap.size, 1, none⟩ = some (.int .i64 (k : Nat)) := by
    have h := heap_alloc_new w (.cells #[.int .i64 (i : Nat), .int .i64 (k : Nat)] 86)
    rw [hW1] at h
    constructor <;> (simp only [World.cell?, h]; rfl)
  have hsz1 : w.heap.size < W1.heap.size := by rw [← hW1]; simp
  obtain ⟨xb, hxb⟩ : ∃ xb, w.heap.size = xb := ⟨_, rfl⟩
  have hs1 := hs.kept hg1 (by simp)
  have HP1 := Lib.hid (hP.kept hg1 hB (fun j h => by cases h))
  have HQ1 := Lib.hid (hQ.kept hg1 hB (fun j h => by cases h))
  have HF1 := Lib.hid (hF.kept hg1 (by simp))
  have HG1 := Lib.hid (hG.kept hg1 (by simp))
  have hfr : ∀ W, W1.heap.size ≤ W.heap.size → IsPat W B pb tp P AP cp → Calls Tryd.prog 52 #[.pointer (some ⟨pb, 0, none⟩), .int .i64 (i : Nat)] W (FreePost W (freeL P i)) := fun W h1 h2 => free_any B pb i tp P AP cp W h2 (by omega) hi
  have HFR := Lib.hid hfr
  have HG0 := Lib.hid hg1
  rw [hxb] at hx0 hsz1 hlb hfb hslt
  have HXB := Lib.hid hxb
  have hxl : lb ≠ xb := by omega
  obtain ⟨x0, x1⟩ := hx0
  have hp1 := hs1.p
  have HS1 := Lib.hid hs1
  clear hs hP hQ hF hG hs1 hg1 hfr
  unfold pairV
  go_enter Tryd.func40, Tryd.ntmps40
  go_upto_region 1 with (fail)
  go_region_held3 (fun W' => W'.cell? ⟨sb, 0, none⟩ = some (.pointer (some ⟨pb, 0, none⟩)) ∧ W'.cell? ⟨xb, 0, none⟩ = some (.int .i64 (i : Nat))) (first | exact ⟨hp1, x0⟩ | exact ⟨p2, x2⟩) (first | (go_at_call 52; refine (HFR.out _ ?_ ?_).mono ?_; (exact Nat.le_refl _); (exact HP1.out.heap rfl); rintro e2 w2 ⟨g1, cap1, rfl, hg1, hc1, hb1⟩; have p2 := (hb1.out.cell (p := ⟨sb, 0, none⟩) (show sb < W1.heap.size by omega)).trans hp1; have x2 := (hb1.out.cell (p := ⟨xb, 0, none⟩) (show xb < W1.heap.size by omega)).trans x0))
  have hxb1 : xb < g1 := Nat.lt_of_lt_of_le hsz1 hg1
  have hgr2 : W1.grownBy w2 none := ⟨hb1.out.os, hb1.out.tape, hb1.out.output, hb1.out.size, fun k hk _ => hb1.out.block k hk⟩
  have hsz2 : xb < w2.heap.size := Nat.lt_of_lt_of_le hsz1 hgr2.size
  have HS2 := Lib.hid (HS1.out.kept hgr2 (by simp))
  have HP2 := Lib.hid (HP1.out.kept hgr2 (by omega) (fun j h => by cases h))
  have HQ2 := Lib.hid (HQ1.out.kept hgr2 (by omega) (fun j h => by cases h))
  have HF2 := Lib.hid (HF1.out.kept hgr2 (by simp))
  have HG2 := Lib.hid (HG1.out.kept hgr2 (by simp))
  have HX2 := Lib.hid (hgr2.cell (a := ⟨xb, 1, none⟩) x1 (by simp))
  have HW2 : Hid (w.grownBy w2 none) := Lib.hid (grown_trans HG0.out hgr2)
  clear hb1 hgr2 p2 x2 hp1 x0 x1
  have hgl1 : g1 ≠ lb := by omega
  obtain ⟨l1, hl1e⟩ : ∃ l1, freeL P i = l1 := ⟨_, rfl⟩
  obtain ⟨l2, hl2e⟩ : ∃ l2, freeL Q k = l2 := ⟨_, rfl⟩
  have hfr2 : ∀ W, xb < W.heap.size → IsPat W B qb tq Q AQ cq → Calls Tryd.prog 52 #[.pointer (some ⟨qb, 0, none⟩), .int .i64 (k : Nat)] W (FreePost W l2) := fun W h1 h2 => by rw [← hl2e]; exact free_any B qb k tq Q AQ cq W h2 (by omega) hk
  have HFR2 := Lib.hid hfr2
  rw [hl1e, hl2e] at HRF
  rw [hl1e] at hm1 hc1 hl1
  rw [hl2e] at hm2 hl2
  rw [hl1e]
  have hl1b : l1.length ≤ 81 := by omega
  have hl2b : l2.length ≤ 81 := by omega
  clear hl1e hl2e hfr2 hl1 hl2
  go_wp2_with fail
  go_loopw [25] (fun vu wr => ∃ u : Nat, u ≤ l1.length ∧ vu = .int .i64 u ∧ Hid (MapF wr lb ((l1.take u).foldl (fun F a => visits G text F a l2) F)) ∧ Hid (w2.grownBy wr (some lb))) (fun vu _ => (l1.length - RowKit.intOf vu).toNat)
  case atStart => exact ⟨0, by omega, rfl, Lib.hid HF2.out, Lib.hid (World.grownBy.refl _ _)⟩
  case round =>
    obtain ⟨u, hu, rfl, HM, HR⟩ := hrel
    by_cases hlt : u < l1.length
    · have i1 : (u : Int) < (l1.length : Int) := by omega
      have ca := HR.out.cell (hc1.out u hlt) (by simpa using hgl1)
      have ham : Hid (l1.getD u 0 ≤ P.length) := Lib.hid (hm1.out _ (getD_mem hlt))
      have HN1 : Hid ((l1.take (u + 1)).foldl (fun F a => visits G text F a l2) F = visits G text ((l1.take u).foldl (fun F a => visits G text F a l2) F) (l1.getD u 0) l2) := Lib.hid (fold_next _ _ _ 0 hlt)
      generalize l1.getD u 0 = a at *
      generalize (l1.take u).foldl (fun F a => visits G text F a l2) F = FU at *
      have hq1 := (HS2.out.kept HR.out (by simpa using hsl)).q
      have hx1 := HR.out.cell HX2.out (by simpa using hxl.symm)
      have HQR := Lib.hid (HQ2.out.kept HR.out (by omega) (fun j h => by cases h; exact hBl))
      have hszr : xb < wr.heap.size := Nat.lt_of_lt_of_le hsz2 HR.out.size
      go_wp2_with fail
      go_region_held3 (fun W' => W'.cell? ⟨sb, 1, none⟩ = some (.pointer (some ⟨qb, 0, none⟩)) ∧ W'.cell? ⟨xb, 1, none⟩ = some (.int .i64 (k : Nat))) (first | exact ⟨hq1, hx1⟩ | exact ⟨p2, x2⟩) (first | (go_at_call 52; refine (HFR2.out _ ?_ ?_).mono ?_; (exact hszr); (exact HQR.out.heap rfl); rintro e2 w3 ⟨g2, cap2, rfl, hg2, hc2, hb2⟩; have p2 := (hb2.out.cell (p := ⟨sb, 1, none⟩) (show sb < wr.heap.size by omega)).trans hq1; have x2 := (hb2.out.cell (p := ⟨xb, 1, none⟩) (show xb < wr.heap.size by omega)).trans hx1))
      have hxb2 : xb < g2 := Nat.lt_of_lt_of_le hszr hg2
      have hgr3 : wr.grownBy w3 none := ⟨hb2.out.os, hb2.out.tape, hb2.out.output, hb2.out.size, fun k hk _ => hb2.out.block k hk⟩
      have hsz3 : xb < w3.heap.size := Nat.lt_of_lt_of_le hszr hgr3.size
      have hgl2 : g2 ≠ lb := by omega
      have HM3 := Lib.hid (HM.out.kept hgr3 (by simp))
      have HR3 : Hid (w2.grownBy w3 (some lb)) := Lib.hid (grown_trans HR.out (hgr3.but _))
      clear hb2 hgr3 p2 x2 hq1 hx1 ca
      go_wp2_with fail
      go_loopw [37] (fun vv wr => ∃ v : Nat, v ≤ l2.length ∧ vv = .int .i64 v ∧ Hid (MapF wr lb (visits G text FU a (l2.take v))) ∧ Hid (w3.grownBy wr (some lb))) (fun vv _ => (l2.length - RowKit.intOf vv).toNat)
      case atStart => exact ⟨0, by omega, rfl, Lib.hid HM3.out, Lib.hid (World.grownBy.refl _ _)⟩
      case round =>
        obtain ⟨v, hv, rfl, HMV, HRV⟩ := hrel
        by_cases hlv : v < l2.length
        · have i2 : (v : Int) < (l2.length : Int) := by omega
          have cc := HRV.out.cell (hc2.out v hlv) (by simpa using hgl2)
          have hcm : Hid (l2.getD v 0 ≤ Q.length) := Lib.hid (hm2.out _ (getD_mem hlv))
          have HN2 : Hid (visits G text FU a (l2.take (v + 1)) = visit G text (visits G text FU a (l2.take v)) a (l2.getD v 0)) := Lib.hid (fold_next (fun F c => visit G text F a c) FU l2 0 hlv)
          generalize l2.getD v 0 = c at *
          generalize visits G text FU a (l2.take v) = FV at *
          have hac : a < 100 ∧ c < 100 := ⟨by have := ham.out; omega, by have := hcm.out; omega⟩
          have HRW : Hid (w2.grownBy wr (some lb)) := Lib.hid (grown_trans HR3.out HRV.out)
          have hszv : xb < wr.heap.size := Nat.lt_of_lt_of_le hsz3 HRV.out.size
          obtain ⟨yb, hyb⟩ : ∃ yb, wr.heap.size = yb := ⟨_, rfl⟩
          obtain ⟨W4, hW4⟩ : ∃ W4, wr.alloc (.cells #[.int .i64 (a : Nat), .int .i64 (c : Nat)] 86) = W4 := ⟨_, rfl⟩
          have hgr4 : wr.grownBy W4 none := by rw [← hW4]; exact World.grownBy_alloc _ _ _
          have hy : W4.cell? ⟨yb, 0, none⟩ = some (.int .i64 (a : Nat)) ∧ W4.cell? ⟨yb, 1, none⟩ = some (.int .i64 (c : Nat)) := by
            have h := heap_alloc_new wr (.cells #[.int .i64 (a : Nat), .int .i64 (c : Nat)] 86)
            rw [hW4, hyb] at h
            constructor <;> (simp only [World.cell?, h]; rfl)
          obtain ⟨y0, y1⟩ := hy
          have HM4 := Lib.hid (HMV.out.kept hgr4 (by simp))
          have HG4 := Lib.hid ((HG2.out.kept HRW.out (by simpa using hne)).kept hgr4 (by simp))
          have hf4 := ((HS2.out.kept HRW.out (by simpa using hsl)).kept hgr4 (by simp)).f
          have hlkG := fun n => (HG4.out.drewN n).look (i := a) (k := c) (by omega) (by omega)
          have hlkF := fun n => (HM4.out.drewN n).look (i := a) (k := c) (by omega) (by omega)
          unfold pairV at hlkG hlkF
          have HR4 : Hid (w3.grownBy W4 (some lb)) := Lib.hid (grown_trans HRV.out (hgr4.but _))
          have HLG := Lib.hid hlkG
          have HLF := Lib.hid hlkF
          clear hgr4 hlkG hlkF
          go_wp2_with fail
          have hlkG := HLG.out
          go_quiet (fail)
          clear hlkG
          have y0q : (W4.drewN nq).cell? ⟨yb, 0, none⟩ = some (.int .i64 (a : Nat)) := y0
          have y1q : (W4.drewN nq).cell? ⟨yb, 1, none⟩ = some (.int .i64 (c : Nat)) := y1
          have HM5 := Lib.hid (HM4.out.drewN nq)
          have HR5 : Hid (w3.grownBy (W4.drewN nq) (some lb)) := Lib.hid (grown_trans HR4.out ⟨rfl, rfl, rfl, Nat.le_refl _, fun _ _ _ => rfl⟩)
          have hlkF := HLF.out nq
          clear y0 y1 hf4
          generalize W4.drewN nq = W5 at *
          cases hGa : G a c with
          | some g =>
            have HV : Hid (visit G text FV a c = FV) := Lib.hid (by rw [visit, hGa]; rfl)
            clear hGa
            go_wp2_with fail
            go_roundw
            case measure => simp [RowKit.intOf]; omega
            case rel => exact ⟨v + 1, by omega, by go_num, Lib.hid (by rw [HN2.out, HV.out]; exact HM5.out), HR5⟩
          | none =>
            have HV : Hid (visit G text FV a c = putF FV a c (better text (FV a c))) := Lib.hid (by rw [visit, hGa, if_neg (by simp)])
            clear hGa
            cases hFa : FV a c with
            | none =>
              rw [hFa] at hlkF
              have HV2 : Hid (visit G text FV a c = putF FV a c text) := Lib.hid (by rw [HV.out, hFa]; rfl)
              obtain ⟨w6, hup, hm6, hg6⟩ := HM5.out.upd (i := a) (k := c) (s := text) hac.1 hac.2 ht
              unfold pairV at hup
              have X1 : Hid (MapF w6 lb (visits G text FU a (l2.take (v + 1)))) := Lib.hid (by rw [HN2.out, HV2.out]; exact hm6)
              have X2 : Hid (w3.grownBy w6 (some lb)) := Lib.hid (grown_trans HR5.out hg6)
              clear hm6 hg6 hFa
              go_wp2_with fail
              go_roundw
              case measure => simp [RowKit.intOf]; omega
              case rel => exact ⟨v + 1, by omega, by go_num, X1, X2⟩
            | some old =>
              rw [hFa] at hlkF
              by_cases hlo : Op.bytesLess text.toList old.toList = true
              · have HV2 : Hid (visit G text FV a c = putF FV a c text) := Lib.hid (by rw [HV.out, hFa, better, if_pos hlo])
                obtain ⟨w6, hup, hm6, hg6⟩ := HM5.out.upd (i := a) (k := c) (s := text) hac.1 hac.2 ht
                unfold pairV at hup
                have X1 : Hid (MapF w6 lb (visits G text FU a (l2.take (v + 1)))) := Lib.hid (by rw [HN2.out, HV2.out]; exact hm6)
                have X2 : Hid (w3.grownBy w6 (some lb)) := Lib.hid (grown_trans HR5.out hg6)
                clear hm6 hg6 hFa
                go_wp2_with fail
                go_roundw
                case measure => simp [RowKit.intOf]; omega
                case rel => exact ⟨v + 1, by omega, by go_num, X1, X2⟩
              · have hlo : Op.bytesLess text.toList old.toList = false := by simpa using hlo
                have HV2 : Hid (visit G text FV a c = FV) := Lib.hid (by rw [HV.out, hFa, better, if_neg (by rw [hlo]; simp), putF_same hFa])
                clear hFa
                go_wp2_with fail
                go_roundw
                case measure => simp [RowKit.intOf]; omega
                case rel => exact ⟨v + 1, by omega, by go_num, Lib.hid (by rw [HN2.out, HV2.out]; exact HM5.out), HR5⟩
        · obtain rfl : v = l2.length := by omega
          have X1 : Hid (MapF wr lb ((l1.take (u + 1)).foldl (fun F a => visits G text F a l2) F)) := Lib.hid (by rw [HN1.out]; have h := HMV.out; rw [List.take_length] at h; exact h)
          have X2 : Hid (w2.grownBy wr (some lb)) := Lib.hid (grown_trans HR3.out HRV.out)
          clear hlv hv
          go_wp2_with fail
          go_roundw
          case measure => simp [RowKit.intOf]; omega
          case rel => exact ⟨u + 1, by omega, by go_num, X1, X2⟩
    · obtain rfl : u = l1.length := by omega
      have X1 : Hid (MapF wr lb (reachF F G P Q i k text)) := Lib.hid (by rw [HRF.out]; have h := HM.out; rw [List.take_length] at h; exact h)
      clear hlt hu
      go_wp2_with fail
      go_end0
      exact ⟨rfl, X1, grown_trans (HW2.out.but _) HR.out⟩

end Go.Proofs.YtgnmanmlnbidfaaDoor
