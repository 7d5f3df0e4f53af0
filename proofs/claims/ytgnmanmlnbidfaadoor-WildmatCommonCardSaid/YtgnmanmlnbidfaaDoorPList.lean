/- Wildmat: ParseList, by a walk through its text. (Three like arms, printed once by a program.) -/
import Derived.Test.YtgnmanmlnbidfaaDoorList
import Derived.Maps.AppendAt
namespace Go.Proofs.YtgnmanmlnbidfaaDoor
open Go.RowKit

theorem info99 : (Tryd.prog.info? 99).map (fun i => (i.zero, i.size, i.bytes)) = some (some (.agg #[.int .i64 0, .pointer none]), 2, 16) := by kernel_rfl

theorem commas_le800 (s : ByteArray) : (commas s).length ≤ s.size + 2 := commas_le s

theorem names_cell (w : World) (l : List ByteArray) : ∀ j, j < l.length → (w.alloc (.cells (l.map Value.string).toArray 9)).cell? ⟨w.heap.size, j, none⟩ = some (.string (l.getD j ByteArray.empty)) := by
  intro j hj
  have h := heap_alloc_new w (.cells (l.map Value.string).toArray 9)
  simp only [World.cell?, h]
  simp [hj, List.getD_eq_getElem?_getD]

set_option maxRecDepth 100000 in
set_option maxHeartbeats 4000000 in
theorem ParseList_any (s : ByteArray) (m : Int) (w : World) (hs : s.size ≤ 1000) (hm : w.cell? ⟨0, 0, none⟩ = some (.int .i64 m)) : Calls Tryd.prog 21 #[.string s] w (ListPost w s (parseF s)) := by
  by_cases h0 : s.size = 0
  · have E : Hid (parseF s = ([], 0, 4)) := Lib.hid (by rw [parseF, if_pos h0])
    obtain rfl : s = ByteArray.empty := ByteArray.ext (Array.eq_empty_of_size_eq_zero h0)
    clear h0 hs
    go_enter Tryd.func21, Tryd.ntmps21
    go_wp2_with fail
    go_ret3
    exact list_none E.out (by decide) (Below.refl _ _)
  · have hemp : s.toList.isEmpty = false := by rw [isEmpty_dec, decide_eq_false h0]
    obtain ⟨L, hL⟩ : ∃ L, L = commas s := ⟨_, rfl⟩
    have E : Hid (parseF s = listGo L [] 0) := Lib.hid (by rw [parseF, if_neg h0, ← hL])
    have hll : L.length ≤ 1002 := by have := commas_le s; rw [hL]; omega
    have hmem : Hid (∀ j, j < L.length → (L.getD j ByteArray.empty).size ≤ 1000) := Lib.hid (fun j hj => by
      have := commas_mem _ s (Nat.le_refl _) (L.getD j ByteArray.empty) (by rw [← hL, List.getD_eq_getElem?_getD, List.getElem?_eq_getElem hj]; exact List.getElem_mem hj)
      omega)
    obtain ⟨W, hW⟩ : ∃ W, w.alloc (.cells #[.string s, .slice none 0 0] 96) = W := ⟨_, rfl⟩
    have hWs : W.heap.size = w.heap.size + 1 := by rw [← hW]; simp
    have HP0 : Hid (W.heap[w.heap.size]? = some (lisB s (.slice none 0 0))) := Lib.hid (by rw [← hW]; exact heap_alloc_new w _)
    have HB0 : Hid (Below w.heap.size w W) := Lib.hid (by rw [← hW]; exact (Below.refl _ _).alloc (Nat.le_refl _) _)
    have HO0 : Hid (W.ownsRow (w.heap.size + 2) 99 2 (.slice none 0 0) 0 []) := Lib.hid (World.ownsRow_nil _ _ _ _)
    have hmW : W.cell? ⟨0, 0, none⟩ = some (.int .i64 m) := (HB0.out.cell (p := ⟨0, 0, none⟩) (World.block_lt_of_cell? _ _ hm)).trans hm
    have HS := Tryd.strings_Split s cm m W (by omega) hmW (by decide)
    have hnm : Lib.splitB cm 0 (Lib.countB s cm) s = L := hL.symm
    have hln : Lib.countB s cm + 1 = L.length := by rw [hL, commas_length]
    rw [hnm, hln, hWs] at HS
    have HS := Lib.hid HS
    obtain ⟨i0, hi, hz0, hz1, hz2⟩ := info_parts info99
    have Hi := Lib.hid hi
    have Z0 := Lib.hid hz0
    have Z1 := Lib.hid hz1
    have Z2 := Lib.hid hz2
    clear hi hz0 hz1 hz2 h0 hL hnm hln hm hmW hs
    go_enter Tryd.func21, Tryd.ntmps21
    go_wp2_with fail
    refine HS.out.mono ?_
    rintro e w1 ⟨rfl, hw1⟩
    have HRS1 : Hid (∀ j, j < L.length → w1.cell? ⟨w.heap.size + 1, j, none⟩ = some (.string (L.getD j ByteArray.empty))) := Lib.hid (by rw [hw1, ← hWs]; exact names_cell W L)
    have HP1 : Hid (w1.heap[w.heap.size]? = some (lisB s (.slice none 0 0))) := Lib.hid (by rw [hw1, Below.heap_alloc _ _ _ (lt_of_block HP0.out)]; exact HP0.out)
    have HB1 : Hid (Below w.heap.size w w1) := Lib.hid (by rw [hw1]; exact HB0.out.alloc HB0.out.size _)
    have HO1 : Hid (w1.ownsRow (w.heap.size + 2) 99 2 (.slice none 0 0) 0 []) := Lib.hid (World.ownsRow_nil _ _ _ _)
    have HSZ1 : Hid (w.heap.size + 1 < w1.heap.size) := Lib.hid (by rw [hw1]; simp; omega)
    clear hw1 hW hWs HP0 HB0 HO0 HS hemp
    go_wp2_with fail
    go_loopw [6, 22] (fun vp vk wr => ∃ (k pos : Nat) (its : List (Nat × Nat × List El)) (A : Option Addr) (cap : Nat), k ≤ L.length ∧ pos ≤ 1001 * k ∧ vp = .int .i64 pos ∧ vk = .int .i64 k ∧ Hid (parseF s = listGo (L.drop k) (its.map itA) pos) ∧ Hid (wr.heap[w.heap.size]? = some (lisB s (.slice A its.length cap))) ∧ Hid (wr.ownsRow (w.heap.size + 2) 99 2 (.slice A its.length cap) its.length (its.flatMap itV)) ∧ Hid (ItsIs wr (w.heap.size + 1) (Value.slice A its.length cap).ownBlock its) ∧ Hid (Below w.heap.size w wr) ∧ Hid (∀ j, j < L.length → wr.cell? ⟨w.heap.size + 1, j, none⟩ = some (.string (L.getD j ByteArray.empty))) ∧ Hid (w.heap.size + 1 < wr.heap.size) ∧ Hid (its.length ≤ 64)) (fun _ vk _ => (L.length - intOf vk).toNat)
    case atStart => exact ⟨0, 0, [], none, 0, by omega, by omega, rfl, rfl, by rw [List.drop_zero]; exact E, HP1, HO1, Lib.hid (fun t ht => by cases ht), HB1, HRS1, HSZ1, Lib.hid (by simp)⟩
    case round =>
      obtain ⟨k, pos, its, A, cap, hk, hpos, rfl, rfl, HE, HP, HO, HI, HB, HRS, HSZ, HLN⟩ := hrel
      obtain ⟨c0, c1, f1⟩ := lisB_cells HP.out
      by_cases hlt : k < L.length
      · have hck := HRS.out k hlt
        have hxs := hmem.out k hlt
        have hkl : (k : Int) < (L.length : Int) := by omega
        obtain ⟨x, hx0⟩ : ∃ x, L.getD k ByteArray.empty = x := ⟨_, rfl⟩
        rw [hx0] at hck hxs
        have hx := Lib.hid hx0
        clear hx0
        by_cases hf : its.length = 64
        · have HF : Hid (parseF s = ([], pos, 9)) := Lib.hid (by rw [HE.out, listGo_full hlt (by rw [List.length_map]; exact hf)])
          have c64 : ((its.length : Int) == 64) = true := by rw [hf]; rfl
          clear hf
          go_wp2_with fail
          go_ret3
          exact list_none HF.out (by decide) HB.out
        · have hful : Hid ((its.map itA).length ≠ 64) := Lib.hid (by rw [List.length_map]; exact hf)
          have c64 : ((its.length : Int) == 64) = false := by simp only [beq_eq_false_iff_ne, ne_eq]; omega
          obtain ⟨b1, hb1⟩ : ∃ b1, preB x ⟨#[33]⟩ = b1 := ⟨_, rfl⟩
          obtain ⟨b2, hb2⟩ : ∃ b2, preB x ⟨#[64]⟩ = b2 := ⟨_, rfl⟩
          have H1 : Hid (∀ W, Calls Tryd.prog 44 #[.string x, .string ⟨#[33]⟩] W fun e w' => e = .returned (.bool b1) ∧ W = w') := Lib.hid (fun W => by rw [← hb1]; exact pre_any _ _ W)
          have H2 : Hid (∀ W, Calls Tryd.prog 44 #[.string x, .string ⟨#[64]⟩] W fun e w' => e = .returned (.bool b2) ∧ W = w') := Lib.hid (fun W => by rw [← hb2]; exact pre_any _ _ W)
          rw [pre_one] at hb1 hb2
          have h33 : (33 : UInt8).toNat = 33 := rfl
          have h64 : (64 : UInt8).toNat = 64 := rfl
          rw [h33] at hb1
          rw [h64] at hb2
          have hsz1 : ∀ c, (chars x).getD 0 256 = c → c < 256 → (1 : Int) ≤ (x.size : Int) := fun c h hc => by
            rcases Nat.eq_zero_or_pos x.size with h0 | h0
            · rw [List.getD_eq_getElem?_getD, List.getElem?_eq_none (by rw [chars_length]; omega)] at h
              simp at h
              omega
            · omega
          cases b1 with
          | true =>
            have hg := of_decide_eq_true hb1
            have hx1 := hsz1 _ hg (by decide)
            have HM : Hid (markF (chars (L.getD k ByteArray.empty)) = (2, 1)) := Lib.hid (by rw [hx.out, markF, if_pos hg])
            clear hg hb1 hb2 hsz1 hf h33 h64 H2
            have hz : (x.extract 1 x.size).size ≤ 100000 := by rw [ByteArray.size_extract]; omega
            have hcz : chars (x.extract 1 x.size) = (chars x).drop 1 := chars_rest x 1
            obtain ⟨z, hzz⟩ : ∃ z, x.extract 1 x.size = z := ⟨_, rfl⟩
            rw [hzz] at hz hcz
            obtain ⟨⟨L1, at1, n1⟩, hRR⟩ : ∃ R, compF (chars z) = R := ⟨_, rfl⟩
            have HC := Compile_any z wr hz
            rw [hRR] at HC
            have HC := Lib.hid HC
            have hRx : compF ((chars x).drop 1) = (L1, at1, n1) := by rw [← hcz]; exact hRR
            have hRx2 : compF ((chars (L.getD k ByteArray.empty)).drop 1) = (L1, at1, n1) := by rw [hx.out]; exact hRx
            have hat : at1 ≤ 2000 := by
              have h := comp_at_le ((chars x).drop 1)
              rw [hRx, List.length_drop, chars_length] at h
              simp only at h
              omega
            have HBAD : Hid (n1 ≠ 0 → parseF s = ([], pos + 1 + at1, n1)) := Lib.hid (fun h0 => by rw [HE.out, listGo_bad hlt hful.out HM.out hRx2 h0])
            have HGOOD : Hid (n1 = 0 → parseF s = listGo (L.drop (k + 1)) ((its.map itA) ++ [(2, L1)]) (pos + (x.size + 1))) := Lib.hid (fun h0 => by rw [HE.out, listGo_good hlt hful.out HM.out hRx2 h0, hx.out])
            clear hRR hRx hRx2 hcz hz
            go_wp2_with fail
            refine (H1.out _).mono ?_
            rintro e1 w1' ⟨rfl, rfl⟩

            go_wp2_with fail
            refine HC.out.mono ?_
            rintro e2 w2 ⟨⟨p, rfl, hans⟩, b2⟩
            have hHP : Hid (w2.heap[w.heap.size]? = some (lisB s (.slice A its.length cap))) := Lib.hid ((b2.block _ (lt_of_block HP.out)).trans HP.out)
            have hHO : Hid (w2.ownsRow (w.heap.size + 2) 99 2 (.slice A its.length cap) its.length (its.flatMap itV)) := Lib.hid (HO.out.kept (grown_of_below b2 none) (by cases (Value.slice A its.length cap).ownBlock <;> simp))
            have hHB : Hid (Below w.heap.size w w2) := Lib.hid (HB.out.trans (b2.mono HB.out.size))
            have hHI : Hid (ItsIs w2 (w.heap.size + 1) (Value.slice A its.length cap).ownBlock its) := Lib.hid (HI.out.kept_none (grown_of_below b2 none))
            have hHR : Hid (∀ j, j < L.length → w2.cell? ⟨w.heap.size + 1, j, none⟩ = some (.string (L.getD j ByteArray.empty))) := Lib.hid (fun j hj => (b2.cell (p := ⟨w.heap.size + 1, j, none⟩) (show w.heap.size + 1 < wr.heap.size from HSZ.out)).trans (HRS.out j hj))
            have hHSZ : Hid (w.heap.size + 1 < w2.heap.size) := Lib.hid (Nat.lt_of_lt_of_le HSZ.out b2.size)
            rcases hans with ⟨h0, b, A2, cap2, rfl, hb, hA2, hp⟩ | ⟨h0, rfl⟩
            · obtain rfl : n1 = 0 := h0
              have HG2 : Hid (parseF s = listGo (L.drop (k + 1)) ((its.map itA) ++ [(2, L1)]) (pos + (x.size + 1))) := Lib.hid (HGOOD.out rfl)
              obtain ⟨d0, d1, df⟩ := lisB_cells hHP.out
              have hI2 : Hid (ItsIs w2 (w.heap.size + 1) (Value.slice A its.length cap).ownBlock (its ++ [(2, b, L1)])) := Lib.hid (hHI.out.more (by decide) hp (by have := HSZ.out; omega) (fun a ha => ⟨by have := (hA2 a ha).1; have := HSZ.out; omega, (hA2 a ha).2, fun e => by have := (HO.out.lt _ e.symm).2; have := (hA2 a ha).1; omega⟩) (fun e => by have := (HO.out.lt _ e.symm).2; omega))
              have OW : Hid ((w2.alloc (.cells #[.int .i64 2, .pointer (some ⟨b, 0, none⟩)] 99)).ownsRow (w.heap.size + 2) 99 2 (.slice A its.length cap) its.length (its.flatMap itV)) := Lib.hid (hHO.out.alloc _)
              have P3 : Hid ((w2.alloc (.cells #[.int .i64 2, .pointer (some ⟨b, 0, none⟩)] 99)).heap[w.heap.size]? = some (lisB s (.slice A its.length cap))) := Lib.hid (by rw [Below.heap_alloc _ _ _ (lt_of_block hHP.out)]; exact hHP.out)
              have I3 : Hid (ItsIs (w2.alloc (.cells #[.int .i64 2, .pointer (some ⟨b, 0, none⟩)] 99)) (w.heap.size + 1) (Value.slice A its.length cap).ownBlock (its ++ [(2, b, L1)])) := Lib.hid (hI2.out.kept_none (World.grownBy_alloc _ _ _))
              have B3 : Hid (Below w.heap.size w (w2.alloc (.cells #[.int .i64 2, .pointer (some ⟨b, 0, none⟩)] 99))) := Lib.hid (hHB.out.alloc hHB.out.size _)
              clear b2 hp hA2 hb HGOOD HBAD
              go_wp2_with (at_builtin; refine wpList_append_own_at _ rfl _ _ 94 rfl (w.heap.size + 2) 99 i0 (.agg #[.int .i64 0, .pointer none]) 2 16 Tryd.underlying94 Hi.out Z0.out Z1.out Z2.out rfl (by decide) _ its.length (its.flatMap itV) rfl OW.out ⟨w2.heap.size, 0, none⟩ 1 1 [.int .i64 2, .pointer (some ⟨b, 0, none⟩)] rfl rfl ?c1a ?c2a ?c3a ?c4a ?c5a ?_)
              case c1a => exact cell_two_new _ _ _ _
              case c2a => intro u hu; simp at hu; rcases hu with rfl | rfl <;> rfl
              case c3a => unfold maxLen; have := HLN.out; omega
              case c4a => have := HLN.out; omega
              case c5a => simp; have := hHSZ.out; omega
              intro v1 w3 hown1 hg1 _ hat1
              obtain ⟨g, cap3, rfl, k1, k2, Y1, Y2, Y3, Y4⟩ := lis_all P3.out OW.out B3.out I3.out hg1 hown1 (by simpa using hat1)
              have YR : Hid (∀ j, j < L.length → (w3.setCell ⟨w.heap.size, 1, none⟩ (.slice (some ⟨g, 0, none⟩) (its.length + 1) cap3)).cell? ⟨w.heap.size + 1, j, none⟩ = some (.string (L.getD j ByteArray.empty))) := Lib.hid (fun j hj => by
                have h1 := (World.grownBy_alloc w2 (.cells #[.int .i64 2, .pointer (some ⟨b, 0, none⟩)] 99) none).cell (hHR.out j hj) (by simp)
                have h2 := hg1.cell h1 (fun e => by have := (OW.out.lt _ e.symm).1; simp at this)
                exact (grown_setCell w3 w.heap.size 1 _).cell h2 (by simp))
              have YSZ : Hid (w.heap.size + 1 < (w3.setCell ⟨w.heap.size, 1, none⟩ (.slice (some ⟨g, 0, none⟩) (its.length + 1) cap3)).heap.size) := Lib.hid (by have h1 := hg1.size; have h2 := hHSZ.out; simp at h1 ⊢; omega)
              clear hown1 hg1 hat1
              go_wp2_with fail
              go_roundw
              case measure => simp [intOf]; omega
              case rel => exact ⟨k + 1, pos + (x.size + 1), its ++ [(2, b, L1)], some ⟨g, 0, none⟩, cap3, by omega, by omega, by go_num, by go_num, by rw [List.map_append]; exact HG2, by rw [List.length_append]; exact Y1, by rw [List.length_append, List.flatMap_append]; exact Y2, by rw [List.length_append]; exact Y4, Y3, YR, YSZ, Lib.hid (by have := HLN.out; have := hful.out; simp at this ⊢; omega)⟩
            · have HB2 : Hid (parseF s = ([], pos + 1 + at1, n1)) := Lib.hid (HBAD.out h0)
              have hne : ((n1 : Int) != 0) = true := by have : (n1 : Int) ≠ 0 := by (have h1 : n1 ≠ 0 := h0; omega)
                                                        simpa using this
              have HN0 := Lib.hid h0
              clear b2 HGOOD HBAD h0
              go_wp2_with fail
              go_ret3
              exact list_none HB2.out HN0.out hHB.out
          | false =>
            have hg := of_decide_eq_false hb1
            cases b2 with
            | true =>
              have hg2 := of_decide_eq_true hb2
              have hx1 := hsz1 _ hg2 (by decide)
              have HM : Hid (markF (chars (L.getD k ByteArray.empty)) = (3, 1)) := Lib.hid (by rw [hx.out, markF, if_neg hg, if_pos hg2])
              clear hg hg2 hb1 hb2 hsz1 hf h33 h64
              have hz : (x.extract 1 x.size).size ≤ 100000 := by rw [ByteArray.size_extract]; omega
              have hcz : chars (x.extract 1 x.size) = (chars x).drop 1 := chars_rest x 1
              obtain ⟨z, hzz⟩ : ∃ z, x.extract 1 x.size = z := ⟨_, rfl⟩
              rw [hzz] at hz hcz
              obtain ⟨⟨L1, at1, n1⟩, hRR⟩ : ∃ R, compF (chars z) = R := ⟨_, rfl⟩
              have HC := Compile_any z wr hz
              rw [hRR] at HC
              have HC := Lib.hid HC
              have hRx : compF ((chars x).drop 1) = (L1, at1, n1) := by rw [← hcz]; exact hRR
              have hRx2 : compF ((chars (L.getD k ByteArray.empty)).drop 1) = (L1, at1, n1) := by rw [hx.out]; exact hRx
              have hat : at1 ≤ 2000 := by
                have h := comp_at_le ((chars x).drop 1)
                rw [hRx, List.length_drop, chars_length] at h
                simp only at h
                omega
              have HBAD : Hid (n1 ≠ 0 → parseF s = ([], pos + 1 + at1, n1)) := Lib.hid (fun h0 => by rw [HE.out, listGo_bad hlt hful.out HM.out hRx2 h0])
              have HGOOD : Hid (n1 = 0 → parseF s = listGo (L.drop (k + 1)) ((its.map itA) ++ [(3, L1)]) (pos + (x.size + 1))) := Lib.hid (fun h0 => by rw [HE.out, listGo_good hlt hful.out HM.out hRx2 h0, hx.out])
              clear hRR hRx hRx2 hcz hz
              go_wp2_with fail
              refine (H1.out _).mono ?_
              rintro e1 w1' ⟨rfl, rfl⟩
              go_wp2_with fail
              refine (H2.out _).mono ?_
              rintro e1 w1' ⟨rfl, rfl⟩

              go_wp2_with fail
              refine HC.out.mono ?_
              rintro e2 w2 ⟨⟨p, rfl, hans⟩, b2⟩
              have hHP : Hid (w2.heap[w.heap.size]? = some (lisB s (.slice A its.length cap))) := Lib.hid ((b2.block _ (lt_of_block HP.out)).trans HP.out)
              have hHO : Hid (w2.ownsRow (w.heap.size + 2) 99 2 (.slice A its.length cap) its.length (its.flatMap itV)) := Lib.hid (HO.out.kept (grown_of_below b2 none) (by cases (Value.slice A its.length cap).ownBlock <;> simp))
              have hHB : Hid (Below w.heap.size w w2) := Lib.hid (HB.out.trans (b2.mono HB.out.size))
              have hHI : Hid (ItsIs w2 (w.heap.size + 1) (Value.slice A its.length cap).ownBlock its) := Lib.hid (HI.out.kept_none (grown_of_below b2 none))
              have hHR : Hid (∀ j, j < L.length → w2.cell? ⟨w.heap.size + 1, j, none⟩ = some (.string (L.getD j ByteArray.empty))) := Lib.hid (fun j hj => (b2.cell (p := ⟨w.heap.size + 1, j, none⟩) (show w.heap.size + 1 < wr.heap.size from HSZ.out)).trans (HRS.out j hj))
              have hHSZ : Hid (w.heap.size + 1 < w2.heap.size) := Lib.hid (Nat.lt_of_lt_of_le HSZ.out b2.size)
              rcases hans with ⟨h0, b, A2, cap2, rfl, hb, hA2, hp⟩ | ⟨h0, rfl⟩
              · obtain rfl : n1 = 0 := h0
                have HG2 : Hid (parseF s = listGo (L.drop (k + 1)) ((its.map itA) ++ [(3, L1)]) (pos + (x.size + 1))) := Lib.hid (HGOOD.out rfl)
                obtain ⟨d0, d1, df⟩ := lisB_cells hHP.out
                have hI2 : Hid (ItsIs w2 (w.heap.size + 1) (Value.slice A its.length cap).ownBlock (its ++ [(3, b, L1)])) := Lib.hid (hHI.out.more (by decide) hp (by have := HSZ.out; omega) (fun a ha => ⟨by have := (hA2 a ha).1; have := HSZ.out; omega, (hA2 a ha).2, fun e => by have := (HO.out.lt _ e.symm).2; have := (hA2 a ha).1; omega⟩) (fun e => by have := (HO.out.lt _ e.symm).2; omega))
                have OW : Hid ((w2.alloc (.cells #[.int .i64 3, .pointer (some ⟨b, 0, none⟩)] 99)).ownsRow (w.heap.size + 2) 99 2 (.slice A its.length cap) its.length (its.flatMap itV)) := Lib.hid (hHO.out.alloc _)
                have P3 : Hid ((w2.alloc (.cells #[.int .i64 3, .pointer (some ⟨b, 0, none⟩)] 99)).heap[w.heap.size]? = some (lisB s (.slice A its.length cap))) := Lib.hid (by rw [Below.heap_alloc _ _ _ (lt_of_block hHP.out)]; exact hHP.out)
                have I3 : Hid (ItsIs (w2.alloc (.cells #[.int .i64 3, .pointer (some ⟨b, 0, none⟩)] 99)) (w.heap.size + 1) (Value.slice A its.length cap).ownBlock (its ++ [(3, b, L1)])) := Lib.hid (hI2.out.kept_none (World.grownBy_alloc _ _ _))
                have B3 : Hid (Below w.heap.size w (w2.alloc (.cells #[.int .i64 3, .pointer (some ⟨b, 0, none⟩)] 99))) := Lib.hid (hHB.out.alloc hHB.out.size _)
                clear b2 hp hA2 hb HGOOD HBAD
                go_wp2_with (at_builtin; refine wpList_append_own_at _ rfl _ _ 94 rfl (w.heap.size + 2) 99 i0 (.agg #[.int .i64 0, .pointer none]) 2 16 Tryd.underlying94 Hi.out Z0.out Z1.out Z2.out rfl (by decide) _ its.length (its.flatMap itV) rfl OW.out ⟨w2.heap.size, 0, none⟩ 1 1 [.int .i64 3, .pointer (some ⟨b, 0, none⟩)] rfl rfl ?c1b ?c2b ?c3b ?c4b ?c5b ?_)
                case c1b => exact cell_two_new _ _ _ _
                case c2b => intro u hu; simp at hu; rcases hu with rfl | rfl <;> rfl
                case c3b => unfold maxLen; have := HLN.out; omega
                case c4b => have := HLN.out; omega
                case c5b => simp; have := hHSZ.out; omega
                intro v1 w3 hown1 hg1 _ hat1
                obtain ⟨g, cap3, rfl, k1, k2, Y1, Y2, Y3, Y4⟩ := lis_all P3.out OW.out B3.out I3.out hg1 hown1 (by simpa using hat1)
                have YR : Hid (∀ j, j < L.length → (w3.setCell ⟨w.heap.size, 1, none⟩ (.slice (some ⟨g, 0, none⟩) (its.length + 1) cap3)).cell? ⟨w.heap.size + 1, j, none⟩ = some (.string (L.getD j ByteArray.empty))) := Lib.hid (fun j hj => by
                  have h1 := (World.grownBy_alloc w2 (.cells #[.int .i64 3, .pointer (some ⟨b, 0, none⟩)] 99) none).cell (hHR.out j hj) (by simp)
                  have h2 := hg1.cell h1 (fun e => by have := (OW.out.lt _ e.symm).1; simp at this)
                  exact (grown_setCell w3 w.heap.size 1 _).cell h2 (by simp))
                have YSZ : Hid (w.heap.size + 1 < (w3.setCell ⟨w.heap.size, 1, none⟩ (.slice (some ⟨g, 0, none⟩) (its.length + 1) cap3)).heap.size) := Lib.hid (by have h1 := hg1.size; have h2 := hHSZ.out; simp at h1 ⊢; omega)
                clear hown1 hg1 hat1
                go_wp2_with fail
                go_roundw
                case measure => simp [intOf]; omega
                case rel => exact ⟨k + 1, pos + (x.size + 1), its ++ [(3, b, L1)], some ⟨g, 0, none⟩, cap3, by omega, by omega, by go_num, by go_num, by rw [List.map_append]; exact HG2, by rw [List.length_append]; exact Y1, by rw [List.length_append, List.flatMap_append]; exact Y2, by rw [List.length_append]; exact Y4, Y3, YR, YSZ, Lib.hid (by have := HLN.out; have := hful.out; simp at this ⊢; omega)⟩
              · have HB2 : Hid (parseF s = ([], pos + 1 + at1, n1)) := Lib.hid (HBAD.out h0)
                have hne : ((n1 : Int) != 0) = true := by have : (n1 : Int) ≠ 0 := by (have h1 : n1 ≠ 0 := h0; omega)
                                                          simpa using this
                have HN0 := Lib.hid h0
                clear b2 HGOOD HBAD h0
                go_wp2_with fail
                go_ret3
                exact list_none HB2.out HN0.out hHB.out
            | false =>
              have hg2 := of_decide_eq_false hb2
              have HM : Hid (markF (chars (L.getD k ByteArray.empty)) = (1, 0)) := Lib.hid (by rw [hx.out, markF, if_neg hg, if_neg hg2])
              clear hg hg2 hb1 hb2 hsz1 hf h33 h64
              have hz : (x.extract 0 x.size).size ≤ 100000 := by rw [ByteArray.size_extract]; omega
              have hcz : chars (x.extract 0 x.size) = (chars x).drop 0 := chars_rest x 0
              obtain ⟨z, hzz⟩ : ∃ z, x.extract 0 x.size = z := ⟨_, rfl⟩
              rw [hzz] at hz hcz
              obtain ⟨⟨L1, at1, n1⟩, hRR⟩ : ∃ R, compF (chars z) = R := ⟨_, rfl⟩
              have HC := Compile_any z wr hz
              rw [hRR] at HC
              have HC := Lib.hid HC
              have hRx : compF ((chars x).drop 0) = (L1, at1, n1) := by rw [← hcz]; exact hRR
              have hRx2 : compF ((chars (L.getD k ByteArray.empty)).drop 0) = (L1, at1, n1) := by rw [hx.out]; exact hRx
              have hat : at1 ≤ 2000 := by
                have h := comp_at_le ((chars x).drop 0)
                rw [hRx, List.length_drop, chars_length] at h
                simp only at h
                omega
              have HBAD : Hid (n1 ≠ 0 → parseF s = ([], pos + 0 + at1, n1)) := Lib.hid (fun h0 => by rw [HE.out, listGo_bad hlt hful.out HM.out hRx2 h0])
              have HGOOD : Hid (n1 = 0 → parseF s = listGo (L.drop (k + 1)) ((its.map itA) ++ [(1, L1)]) (pos + (x.size + 1))) := Lib.hid (fun h0 => by rw [HE.out, listGo_good hlt hful.out HM.out hRx2 h0, hx.out])
              clear hRR hRx hRx2 hcz hz
              go_wp2_with fail
              refine (H1.out _).mono ?_
              rintro e1 w1' ⟨rfl, rfl⟩
              go_wp2_with fail
              refine (H2.out _).mono ?_
              rintro e1 w1' ⟨rfl, rfl⟩

              go_wp2_with fail
              refine HC.out.mono ?_
              rintro e2 w2 ⟨⟨p, rfl, hans⟩, b2⟩
              have hHP : Hid (w2.heap[w.heap.size]? = some (lisB s (.slice A its.length cap))) := Lib.hid ((b2.block _ (lt_of_block HP.out)).trans HP.out)
              have hHO : Hid (w2.ownsRow (w.heap.size + 2) 99 2 (.slice A its.length cap) its.length (its.flatMap itV)) := Lib.hid (HO.out.kept (grown_of_below b2 none) (by cases (Value.slice A its.length cap).ownBlock <;> simp))
              have hHB : Hid (Below w.heap.size w w2) := Lib.hid (HB.out.trans (b2.mono HB.out.size))
              have hHI : Hid (ItsIs w2 (w.heap.size + 1) (Value.slice A its.length cap).ownBlock its) := Lib.hid (HI.out.kept_none (grown_of_below b2 none))
              have hHR : Hid (∀ j, j < L.length → w2.cell? ⟨w.heap.size + 1, j, none⟩ = some (.string (L.getD j ByteArray.empty))) := Lib.hid (fun j hj => (b2.cell (p := ⟨w.heap.size + 1, j, none⟩) (show w.heap.size + 1 < wr.heap.size from HSZ.out)).trans (HRS.out j hj))
              have hHSZ : Hid (w.heap.size + 1 < w2.heap.size) := Lib.hid (Nat.lt_of_lt_of_le HSZ.out b2.size)
              rcases hans with ⟨h0, b, A2, cap2, rfl, hb, hA2, hp⟩ | ⟨h0, rfl⟩
              · obtain rfl : n1 = 0 := h0
                have HG2 : Hid (parseF s = listGo (L.drop (k + 1)) ((its.map itA) ++ [(1, L1)]) (pos + (x.size + 1))) := Lib.hid (HGOOD.out rfl)
                obtain ⟨d0, d1, df⟩ := lisB_cells hHP.out
                have hI2 : Hid (ItsIs w2 (w.heap.size + 1) (Value.slice A its.length cap).ownBlock (its ++ [(1, b, L1)])) := Lib.hid (hHI.out.more (by decide) hp (by have := HSZ.out; omega) (fun a ha => ⟨by have := (hA2 a ha).1; have := HSZ.out; omega, (hA2 a ha).2, fun e => by have := (HO.out.lt _ e.symm).2; have := (hA2 a ha).1; omega⟩) (fun e => by have := (HO.out.lt _ e.symm).2; omega))
                have OW : Hid ((w2.alloc (.cells #[.int .i64 1, .pointer (some ⟨b, 0, none⟩)] 99)).ownsRow (w.heap.size + 2) 99 2 (.slice A its.length cap) its.length (its.flatMap itV)) := Lib.hid (hHO.out.alloc _)
                have P3 : Hid ((w2.alloc (.cells #[.int .i64 1, .pointer (some ⟨b, 0, none⟩)] 99)).heap[w.heap.size]? = some (lisB s (.slice A its.length cap))) := Lib.hid (by rw [Below.heap_alloc _ _ _ (lt_of_block hHP.out)]; exact hHP.out)
                have I3 : Hid (ItsIs (w2.alloc (.cells #[.int .i64 1, .pointer (some ⟨b, 0, none⟩)] 99)) (w.heap.size + 1) (Value.slice A its.length cap).ownBlock (its ++ [(1, b, L1)])) := Lib.hid (hI2.out.kept_none (World.grownBy_alloc _ _ _))
                have B3 : Hid (Below w.heap.size w (w2.alloc (.cells #[.int .i64 1, .pointer (some ⟨b, 0, none⟩)] 99))) := Lib.hid (hHB.out.alloc hHB.out.size _)
                clear b2 hp hA2 hb HGOOD HBAD
                go_wp2_with (at_builtin; refine wpList_append_own_at _ rfl _ _ 94 rfl (w.heap.size + 2) 99 i0 (.agg #[.int .i64 0, .pointer none]) 2 16 Tryd.underlying94 Hi.out Z0.out Z1.out Z2.out rfl (by decide) _ its.length (its.flatMap itV) rfl OW.out ⟨w2.heap.size, 0, none⟩ 1 1 [.int .i64 1, .pointer (some ⟨b, 0, none⟩)] rfl rfl ?c1c ?c2c ?c3c ?c4c ?c5c ?_)
                case c1c => exact cell_two_new _ _ _ _
                case c2c => intro u hu; simp at hu; rcases hu with rfl | rfl <;> rfl
                case c3c => unfold maxLen; have := HLN.out; omega
                case c4c => have := HLN.out; omega
                case c5c => simp; have := hHSZ.out; omega
                intro v1 w3 hown1 hg1 _ hat1
                obtain ⟨g, cap3, rfl, k1, k2, Y1, Y2, Y3, Y4⟩ := lis_all P3.out OW.out B3.out I3.out hg1 hown1 (by simpa using hat1)
                have YR : Hid (∀ j, j < L.length → (w3.setCell ⟨w.heap.size, 1, none⟩ (.slice (some ⟨g, 0, none⟩) (its.length + 1) cap3)).cell? ⟨w.heap.size + 1, j, none⟩ = some (.string (L.getD j ByteArray.empty))) := Lib.hid (fun j hj => by
                  have h1 := (World.grownBy_alloc w2 (.cells #[.int .i64 1, .pointer (some ⟨b, 0, none⟩)] 99) none).cell (hHR.out j hj) (by simp)
                  have h2 := hg1.cell h1 (fun e => by have := (OW.out.lt _ e.symm).1; simp at this)
                  exact (grown_setCell w3 w.heap.size 1 _).cell h2 (by simp))
                have YSZ : Hid (w.heap.size + 1 < (w3.setCell ⟨w.heap.size, 1, none⟩ (.slice (some ⟨g, 0, none⟩) (its.length + 1) cap3)).heap.size) := Lib.hid (by have h1 := hg1.size; have h2 := hHSZ.out; simp at h1 ⊢; omega)
                clear hown1 hg1 hat1
                go_wp2_with fail
                go_roundw
                case measure => simp [intOf]; omega
                case rel => exact ⟨k + 1, pos + (x.size + 1), its ++ [(1, b, L1)], some ⟨g, 0, none⟩, cap3, by omega, by omega, by go_num, by go_num, by rw [List.map_append]; exact HG2, by rw [List.length_append]; exact Y1, by rw [List.length_append, List.flatMap_append]; exact Y2, by rw [List.length_append]; exact Y4, Y3, YR, YSZ, Lib.hid (by have := HLN.out; have := hful.out; simp at this ⊢; omega)⟩
              · have HB2 : Hid (parseF s = ([], pos + 0 + at1, n1)) := Lib.hid (HBAD.out h0)
                have hne : ((n1 : Int) != 0) = true := by have : (n1 : Int) ≠ 0 := by (have h1 : n1 ≠ 0 := h0; omega)
                                                          simpa using this
                have HN0 := Lib.hid h0
                clear b2 HGOOD HBAD h0
                go_wp2_with fail
                go_ret3
                exact list_none HB2.out HN0.out hHB.out
      · obtain rfl : k = L.length := by omega
        have HF : Hid (parseF s = (its.map itA, 0, 0)) := Lib.hid (by rw [HE.out, List.drop_length]; rfl)
        clear hlt hk
        go_wp2_with fail
        go_ret3
        rw [HF.out]
        exact ⟨⟨_, rfl, .inl ⟨rfl, w.heap.size, its, A, cap, rfl, rfl, Nat.le_refl _, list_done HP.out rfl HO.out HI.out HLN.out⟩⟩, HB.out⟩

end Go.Proofs.YtgnmanmlnbidfaaDoor
