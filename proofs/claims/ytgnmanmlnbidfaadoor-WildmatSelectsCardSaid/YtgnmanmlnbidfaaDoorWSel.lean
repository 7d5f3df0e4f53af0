/- Wildmat: the law WildmatSelects, by a walk through its text. -/
import Derived.Test.YtgnmanmlnbidfaaDoorWVer
import Derived.Test.YtgnmanmlnbidfaaDoorRSel
import Derived.Test.YtgnmanmlnbidfaaDoorLiftL
namespace Go.Proofs.YtgnmanmlnbidfaaDoor
open Go.RowKit

def cutB (n : Nat) (s : ByteArray) : ByteArray := s.extract 0 (min s.size n)
/-- The names that the law hands on. -/
def ownF (l : List ByteArray) (k : Nat) : List ByteArray := (l.take k).map (cutB 100)

theorem own_next {l : List ByteArray} {k : Nat} (hk : k < l.length) : ownF l (k + 1) = ownF l k ++ [cutB 100 (l.getD k ByteArray.empty)] := by
  rw [ownF, List.take_succ_eq_append_getElem hk, List.map_append, List.getD_eq_getElem?_getD, List.getElem?_eq_getElem hk]
  rfl
theorem own_len {l : List ByteArray} {k : Nat} (hk : k ≤ l.length) : (ownF l k).length = k := by rw [ownF, List.length_map, List.length_take]; omega

theorem filt_more (f : ByteArray → Nat) (l : List ByteArray) (x : ByteArray) : filtF f (l ++ [x]) = if f x = 1 then filtF f l ++ [x] else filtF f l := by
  rw [filtF, List.filter_append]
  split
  · rename_i h; rw [List.filter_cons_of_pos (by simp [h])]; rfl
  · rename_i h; rw [List.filter_cons_of_neg (by simp [h])]; simp [filtF]

/-- Two rows lie apart. -/
def Apart (p q : Option Nat) : Prop := ∀ g, p = some g → q ≠ some g
theorem Apart.symm {p q : Option Nat} (h : Apart p q) : Apart q p := fun g h1 h2 => h g h2 h1

theorem row_step {w0 wa w1 : World} {v v1 u : Value} {n nu : Nat} {xs ys zs : List Value} (ho : wa.ownsRow w0.heap.size 9 1 v n xs) (hu : wa.ownsRow w0.heap.size 9 1 u nu zs) (hap : Apart v.ownBlock u.ownBlock) (hb : Below w0.heap.size w0 wa) (hg : wa.grownBy w1 v.ownBlock) (hown : w1.ownsRow w0.heap.size 9 1 v1 (n + 1) ys) (hat : v1.ownBlock = v.ownBlock ∨ v1.ownBlock = some wa.heap.size) :
    ∃ g c, v1 = .slice (some ⟨g, 0, none⟩) (n + 1) c ∧ Hid (w1.ownsRow w0.heap.size 9 1 (.slice (some ⟨g, 0, none⟩) (n + 1) c) (n + 1) ys) ∧ Hid (w1.ownsRow w0.heap.size 9 1 u nu zs) ∧ Hid (Apart (Value.slice (some ⟨g, 0, none⟩) (n + 1) c).ownBlock u.ownBlock) ∧ Hid (Below w0.heap.size w0 w1) := by
  have hb1 : Below w0.heap.size w0 w1 := hb.grown hg hb.size (fun k e => (ho.lt _ e).1)
  have hu1 : w1.ownsRow w0.heap.size 9 1 u nu zs := hu.kept hg (by
    cases h : u.ownBlock with
    | none => exact .inl rfl
    | some g => exact .inr (fun e => hap g e.symm h))
  have hap1 : Apart v1.ownBlock u.ownBlock := by
    rcases hat with h | h
    · rw [h]; exact hap
    · rw [h]
      intro g e1 e2
      have := (hu.lt g e2).2
      have := Option.some.inj e1
      omega
  have hform : ∃ g c, v1 = .slice (some ⟨g, 0, none⟩) (n + 1) c := by
    rcases hown.2 with ⟨_, h⟩ | ⟨g, c, cur, hv, _⟩
    · omega
    · exact ⟨g, c, hv⟩
  obtain ⟨g, c, rfl⟩ := hform
  exact ⟨g, c, rfl, Lib.hid hown, Lib.hid hu1, Lib.hid hap1, Lib.hid hb1⟩

theorem row_below {w0 w w' : World} {v : Value} {n : Nat} {xs : List Value} (h : w.ownsRow w0.heap.size 9 1 v n xs) (hb : Below w.heap.size w w') : w'.ownsRow w0.heap.size 9 1 v n xs := h.kept (grown_of_below hb none) (by cases v.ownBlock <;> simp)

theorem rv_later {w W : World} {A : Option Addr} {l : List Value} (h : ReadsV w w.heap.size A l) (hb : Below w.heap.size w W) : ReadsV W W.heap.size A l := by
  rcases h.below hb with h3 | ⟨b, off, h3, h4, h5⟩
  · exact .inl h3
  · exact .inr ⟨b, off, h3, Nat.lt_of_lt_of_le h4 hb.size, h5⟩

theorem get_str {l : List ByteArray} {k : Nat} (h : k < l.length) : (l.map Value.string).getD k undef = .string (l.getD k ByteArray.empty) := by
  rw [List.getD_eq_getElem?_getD, List.getD_eq_getElem?_getD, List.getElem?_map, List.getElem?_eq_getElem h]; rfl

set_option maxRecDepth 100000 in
set_option maxHeartbeats 8000000 in
theorem sel_walk (s : ByteArray) (A0 : Option Addr) (names : List ByteArray) (cap0 : Nat) (m : Int) (w : World) (hm : w.cell? ⟨0, 0, none⟩ = some (.int .i64 m)) (hR0 : ReadsV w w.heap.size A0 (names.map Value.string)) (_ : names.length ≤ maxLen) :
    Calls Tryd.prog 9 #[.string s, .slice A0 names.length cap0] w fun e w' => e = .returned (.bool true) ∧ Below w.heap.size w w' := by
  have HM := Lib.hid hm
  have h00 := Lib.hid (World.block_lt_of_cell? _ _ hm)
  have HR0 := Lib.hid hR0
  have hts := cut_size s 400
  have C1 : Hid (∀ w, Calls Tryd.prog 11 #[.string s, .int .i64 400] w fun e w' => e = .returned (.string (s.extract 0 (min s.size 400))) ∧ w = w') := Lib.hid (fun w => cut_any s 400 w)
  have C2 : Hid (∀ x w, Calls Tryd.prog 11 #[.string x, .int .i64 100] w fun e w' => e = .returned (.string (cutB 100 x)) ∧ w = w') := Lib.hid (fun x w => cut_any x 100 w)
  generalize s.extract 0 (min s.size 400) = t at *
  clear hm hR0
  obtain ⟨R, hR⟩ : ∃ R, parseF t = R := ⟨_, rfl⟩
  have K1 := list_both t m
  have K2 := RParseList_any t
  rw [hR] at K1 K2
  have K1 := Lib.hid K1
  have K2 := Lib.hid K2
  clear hR
  obtain ⟨i0, hi, hz0, hz1, hz2⟩ := info_parts info9
  have Hi := Lib.hid hi
  have Z0 := Lib.hid hz0
  have Z1 := Lib.hid hz1
  have Z2 := Lib.hid hz2
  clear hi hz0 hz1 hz2
  go_enter Tryd.func9, Tryd.ntmps9
  go_wp2_with fail
  refine (C1.out _).mono ?_
  rintro e w1 ⟨rfl, rfl⟩
  clear C1
  go_wp2_with fail
  refine (K1.out _ (by omega) HM.out).mono ?_
  rintro e w1 ⟨⟨p1, a1, rfl, h1⟩, b1⟩
  have H1 := Lib.hid h1
  have B1 := Lib.hid b1
  clear b1 h1
  go_wp2_with fail
  refine (K2.out _ (by omega)).mono ?_
  rintro e w2 ⟨⟨A, cap, its2, rfl, hmap, hrf⟩, b2⟩
  have HRF := Lib.hid hrf
  have HMAP := Lib.hid hmap
  have b2' := Lib.hid b2
  have B2 := Lib.hid (B1.out.trans (b2.mono B1.out.size))
  clear hrf b2 K1 K2 hmap
  by_cases h0 : R.2.2 = 0
  · have e0 : ((R.2.2 : Int) != 0) = false := by rw [h0]; rfl
    have e1 : ((R.2.2 : Int) == 0) = true := by rw [h0]; rfl
    rcases H1.out with ⟨_, lb, its1, A1, cap1, rfl, hm1, hl1⟩ | ⟨hn, _⟩
    · have HL := Lib.hid (hl1.later b2'.out)
      have HM1 := Lib.hid hm1
      clear hl1 H1 b2' hm1
      generalize R.2.2 = r2 at *
      generalize R.2.1 = r1 at *
      generalize R.1 = L at *
      go_wp2_with fail
      refine (known_any m _ (cell_later0 HM.out B2.out h00.out)).mono ?_
      rintro e w3 ⟨rfl, b3⟩
      have B3 := Lib.hid (B2.out.trans (b3.mono B2.out.size))
      have HL3 := Lib.hid (HL.out.later b3)
      have HRF3 := Lib.hid (HRF.out.later b3)
      clear b3 HL HRF
      -- the two verdicts, as one plain function
      have HF1 : Hid (VerdOf (.pointer (some ⟨lb, 0, none⟩)) (fun s => verdF L (chars s)) w3) := Lib.hid (by rw [← HM1.out]; exact verd_of HL3.out)
      have HF2 : Hid (∀ (s : ByteArray) (W : World), s.size ≤ 100 → Below w3.heap.size w3 W → Calls Tryd.prog 24 #[.slice A its2.length cap, .string s] W fun e w' => e = .returned (.int .i64 (verdF L (chars s) : Nat)) ∧ Below W.heap.size W w') := Lib.hid (fun s W hs hB => by rw [← HMAP.out]; exact RVerdict_any s A its2 cap W (HRF3.out.later hB) hs)
      obtain ⟨f, hf⟩ : ∃ f : ByteArray → Nat, (fun s => verdF L (chars s)) = f := ⟨_, rfl⟩
      have hfs : ∀ s, verdF L (chars s) = f s := fun s => by rw [← hf]
      have HFS := Lib.hid hfs
      rw [hf] at HF1
      simp only [hfs] at HF2
      have HO0 : Hid (w3.ownsRow w3.heap.size 9 1 (.slice none 0 0) 0 []) := Lib.hid (World.ownsRow_nil _ _ _ _)
      clear hf hfs
      go_wp2_with fail
      go_loopw [11, 12, 13] (fun v11 v12 v13 wr => ∃ (k : Nat) (Ao Aw : Option Addr) (co cw : Nat), k ≤ names.length ∧ k ≤ 10 ∧ v11 = .slice Ao k co ∧ v12 = .slice Aw (filtF f (ownF names k)).length cw ∧ v13 = .int .i64 k ∧ Hid (wr.ownsRow w3.heap.size 9 1 (.slice Ao k co) k ((ownF names k).map Value.string)) ∧ Hid (wr.ownsRow w3.heap.size 9 1 (.slice Aw (filtF f (ownF names k)).length cw) (filtF f (ownF names k)).length ((filtF f (ownF names k)).map Value.string)) ∧ Hid (Apart (Value.slice Ao k co).ownBlock (Value.slice Aw (filtF f (ownF names k)).length cw).ownBlock) ∧ Hid (Below w3.heap.size w3 wr)) (fun _ _ v13 _ => (10 - intOf v13).toNat)
      case atStart => exact ⟨0, none, none, 0, 0, by omega, by omega, rfl, rfl, rfl, HO0, HO0, Lib.hid (fun g h => by cases h), Lib.hid (Below.refl _ _)⟩
      case round =>
        obtain ⟨k, Ao, Aw, co, cw, hkn, hk10, rfl, rfl, rfl, HOO, HOW, HAP, HB⟩ := hrel
        by_cases hlt : k < names.length ∧ k < 10
        · obtain ⟨hl1, hl2⟩ := hlt
          have hki : (k : Int) < (names.length : Int) := by omega
          have hkd : decide ((k : Int) < (names.length : Int)) = true := decide_eq_true hki
          have hkt : decide ((k : Int) < 10) = true := decide_eq_true (by omega)
          obtain ⟨bb, off, hA, hbb, c0⟩ := (HR0.out.below (B3.out.trans (HB.out.mono B3.out.size))).at (k := k) (by rw [List.length_map]; exact hl1)
          subst hA
          rw [get_str hl1] at c0
          have HON := Lib.hid (own_next hl1)
          have HFM := Lib.hid (filt_more f (ownF names k) (cutB 100 (names.getD k ByteArray.empty)))
          have CC := C2.out (names.getD k ByteArray.empty) wr
          have hy100 : (cutB 100 (names.getD k ByteArray.empty)).size ≤ 100 := cut_size _ 100
          generalize names.getD k ByteArray.empty = x at *
          generalize cutB 100 x = y at *
          have CCH := Lib.hid CC
          clear CC
          generalize hN : ownF names k = N at *
          have hNl : N.length = k := by rw [← hN]; exact own_len hkn
          have HFL := Lib.hid (filt_le f N)
          obtain ⟨M, hM⟩ : ∃ M, filtF f N = M := ⟨_, rfl⟩
          rw [hM] at HOW HAP HFM HFL
          rw [hM]
          have hMl : M.length ≤ 10 := by have := HFL.out; omega
          clear hM
          have OW : Hid ((wr.alloc (.cells #[.string y] 9)).ownsRow w3.heap.size 9 1 (.slice Ao k co) k (N.map Value.string)) := Lib.hid (HOO.out.alloc _)
          have OU : Hid ((wr.alloc (.cells #[.string y] 9)).ownsRow w3.heap.size 9 1 (.slice Aw M.length cw) M.length (M.map Value.string)) := Lib.hid (HOW.out.alloc _)
          have BA : Hid (Below w3.heap.size w3 (wr.alloc (.cells #[.string y] 9))) := Lib.hid (HB.out.alloc HB.out.size _)
          go_wp2_with fail
          refine CCH.out.mono ?_
          rintro e w4 ⟨rfl, rfl⟩
          go_wp2_with (at_builtin; refine wpList_append_own_at _ rfl _ _ 50 rfl w3.heap.size 9 i0 (.string ⟨#[]⟩) 1 16 Tryd.underlying50 Hi.out Z0.out Z1.out Z2.out rfl (by decide) _ k (N.map Value.string) rfl OW.out ⟨wr.heap.size, 0, none⟩ 1 1 [.string y] rfl rfl ?c1 ?c2 ?c3 ?c4 ?c5 ?_)
          case c1 => exact cell_one_new _ _ _
          case c2 => intro u hu; simp at hu; subst hu; rfl
          case c3 => unfold maxLen; omega
          case c4 => omega
          case c5 => exact BA.out.size
          intro v1 w5 hown1 hg1 _ hat1
          obtain ⟨g, c3, rfl, O5, U5, P5, B5⟩ := row_step OW.out OU.out HAP.out BA.out hg1 hown1 (by simpa using hat1)
          clear hown1 hg1 hat1 OW OU BA
          have HVC := Lib.hid (HF2.out y w5 hy100 B5.out)
          obtain ⟨fy, hfy⟩ : ∃ fy, f y = fy := ⟨_, rfl⟩
          rw [hfy] at HVC HFM
          clear hfy
          go_wp2_with fail
          refine HVC.out.mono ?_
          rintro e w6 ⟨rfl, b6⟩
          have B6 := Lib.hid (B5.out.trans (b6.mono B5.out.size))
          have O6 := Lib.hid (row_below O5.out b6)
          have U6 := Lib.hid (row_below U5.out b6)
          clear b6 HVC
          by_cases h1 : fy = 1
          · have t1 : ((fy : Int) == 1) = true := by rw [h1]; rfl
            have HFN : Hid (filtF f (N ++ [y]) = M ++ [y]) := Lib.hid (by rw [HFM.out, if_pos h1])
            have OW2 : Hid ((w6.alloc (.cells #[.string y] 9)).ownsRow w3.heap.size 9 1 (.slice Aw M.length cw) M.length (M.map Value.string)) := Lib.hid (U6.out.alloc _)
            have OU2 : Hid ((w6.alloc (.cells #[.string y] 9)).ownsRow w3.heap.size 9 1 (.slice (some ⟨g, 0, none⟩) (k + 1) c3) (k + 1) (N.map Value.string ++ [.string y])) := Lib.hid (O6.out.alloc _)
            have BA2 : Hid (Below w3.heap.size w3 (w6.alloc (.cells #[.string y] 9))) := Lib.hid (B6.out.alloc B6.out.size _)
            clear h1
            go_wp2_with (at_builtin; refine wpList_append_own_at _ rfl _ _ 50 rfl w3.heap.size 9 i0 (.string ⟨#[]⟩) 1 16 Tryd.underlying50 Hi.out Z0.out Z1.out Z2.out rfl (by decide) _ M.length (M.map Value.string) rfl OW2.out ⟨w6.heap.size, 0, none⟩ 1 1 [.string y] rfl rfl ?d1 ?d2 ?d3 ?d4 ?d5 ?_)
            case d1 => exact cell_one_new _ _ _
            case d2 => intro u hu; simp at hu; subst hu; rfl
            case d3 => unfold maxLen; omega
            case d4 => omega
            case d5 => exact BA2.out.size
            intro v2 w7 hown2 hg2 _ hat2
            obtain ⟨g2, c4, rfl, O7, U7, P7, B7⟩ := row_step OW2.out OU2.out P5.out.symm BA2.out hg2 hown2 (by simpa using hat2)
            clear hown2 hg2 hat2 OW2 OU2 BA2
            go_wp2_with fail
            go_roundw
            case measure => simp [intOf]; omega
            case rel =>
              refine ⟨k + 1, some ⟨g, 0, none⟩, some ⟨g2, 0, none⟩, c3, c4, by omega, by omega, rfl, ?_, by go_num, ?_, ?_, ?_, B7⟩
              · rw [HON.out, HFN.out, List.length_append]; rfl
              · rw [HON.out, List.map_append]; exact U7
              · rw [HON.out, HFN.out, List.length_append, List.map_append]; exact O7
              · rw [HON.out, HFN.out, List.length_append]; exact Lib.hid P7.out.symm
          · have t1 : ((fy : Int) == 1) = false := by simp only [beq_eq_false_iff_ne, ne_eq]; omega
            have HFN : Hid (filtF f (N ++ [y]) = M) := Lib.hid (by rw [HFM.out, if_neg h1])
            clear h1
            go_wp2_with fail
            go_roundw
            case measure => simp [intOf]; omega
            case rel =>
              refine ⟨k + 1, some ⟨g, 0, none⟩, Aw, c3, cw, by omega, by omega, rfl, ?_, by go_num, ?_, ?_, ?_, B6⟩
              · rw [HON.out, HFN.out]
              · rw [HON.out, List.map_append]; exact O6
              · rw [HON.out, HFN.out]; exact U6
              · rw [HON.out, HFN.out]; exact P5
        · have hex : Hid (names.length ≤ k ∨ (k < names.length ∧ k = 10)) := Lib.hid (by
            rcases Nat.lt_or_ge k names.length with h | h
            · exact .inr ⟨h, by omega⟩
            · exact .inl h)
          have HZ : Hid (∀ s ∈ ownF names k, s.size ≤ 100) := Lib.hid (fun s hs => by
            obtain ⟨x, _, rfl⟩ := List.mem_map.1 hs
            exact cut_size x 100)
          generalize hN : ownF names k = N at *
          have hNl : N.length = k := by rw [← hN]; exact own_len hkn
          clear hN hlt
          subst hNl
          have HFL := Lib.hid (filt_le f N)
          go_upto_region 8 with fail
          go_cut [49] (fun v49 wx => v49 = .bool false ∧ wx = wr)
          case first =>
            rcases hex.out with h | ⟨h, h2⟩
            · have g1 : ¬ N.length < names.length := by omega
              have g2 : decide ((N.length : Int) < (names.length : Int)) = false := decide_eq_false (by omega)
              go_wp2_with fail
              go_meet
              case rel => exact ⟨rfl, rfl⟩
            · have g1 : N.length < names.length := h
              have g2 : decide ((N.length : Int) < (names.length : Int)) = true := decide_eq_true (by omega)
              have g3 : decide ((N.length : Int) < 10) = false := decide_eq_false (by omega)
              have g4 : ¬ N.length < 10 := by omega
              clear h2
              go_wp2_with fail
              go_meet
              case rel => exact ⟨rfl, rfl⟩
          obtain ⟨rfl, hw⟩ := hcut
          subst hw
          generalize wc = wr at *
          clear hex
          have HFC := Lib.hid (Filter_any (.pointer (some ⟨lb, 0, none⟩)) f N Ao co wr (fun s W hs hB => HF1.out s W hs (HB.out.trans (hB.mono HB.out.size))) (own_reads HOO.out) (by omega) HZ.out)
          have HVW : Hid (VerdOf (.pointer (some ⟨lb, 0, none⟩)) f wr) := Lib.hid (fun s W hs hB => HF1.out s W hs (HB.out.trans (hB.mono HB.out.size)))
          have HRO := Lib.hid (own_reads HOO.out)
          have HRW := Lib.hid (own_reads HOW.out)
          have HRF := Lib.hid (HRF3.out.later HB.out)
          have HBR := Lib.hid (B3.out.trans (HB.out.mono B3.out.size))
          clear HOO HOW HAP HF1 HF2 HRF3 B3 B2 B1 HB HL3
          obtain ⟨M, hM⟩ : ∃ M, filtF f N = M := ⟨_, rfl⟩
          rw [hM] at HFC HRW HFL ⊢
          have hMl : M.length ≤ 10 := by have := HFL.out; omega
          clear hM HFL
          go_wp2_with fail
          refine HFC.out.mono ?_
          rintro e w4 ⟨⟨A', cap', rfl, hrd⟩, b4⟩
          have HG := Lib.hid hrd
          have b4' := Lib.hid b4
          have hmm : ((M.length : Int) != (M.length : Int)) = false := by simp
          clear HFC hrd b4
          go_wp2_with fail
          go_loopw [16] (fun vi wq => ∃ i : Nat, i ≤ M.length ∧ vi = .int .i64 i ∧ Hid (Below w4.heap.size w4 wq)) (fun vi _ => (M.length - intOf vi).toNat)
          case atStart => exact ⟨0, by omega, rfl, Lib.hid (Below.refl _ _)⟩
          case round =>
            obtain ⟨i, hi, rfl, HQ⟩ := hrel
            by_cases hil : i < M.length
            · obtain ⟨gb, goff, hA', _, g0⟩ := (HG.out.below HQ.out).at (k := i) (by rw [List.length_map]; exact hil)
              subst hA'
              obtain ⟨hb, hoff, hAw, _, q0⟩ := ((HRW.out.below b4'.out).below (HQ.out.mono b4'.out.size)).at (k := i) (by rw [List.length_map]; exact hil)
              subst hAw
              rw [get_str hil] at g0 q0
              generalize M.getD i ByteArray.empty = x at *
              have hii : (i : Int) < (M.length : Int) := by omega
              have hid : decide ((i : Int) < (M.length : Int)) = true := decide_eq_true hii
              have hxx : (x.toList != x.toList) = false := by simp
              go_wp2_with fail
              go_quiet (fail)
              go_wp2_with fail
              go_roundw
              case measure => simp [intOf]; omega
              case rel => exact ⟨i + 1, by omega, by go_num, Lib.hid (below_drewN HQ.out _)⟩
            · obtain rfl : i = M.length := by omega
              have hid : decide ((M.length : Int) < (M.length : Int)) = false := decide_eq_false (by omega)
              have hin : ¬ M.length < M.length := by omega
              clear hil hi
              have BQ := Lib.hid (b4'.out.trans (HQ.out.mono b4'.out.size))
              have HRO2 := Lib.hid (rv_later HRO.out BQ.out)
              have HRF2 := Lib.hid (HRF.out.later BQ.out)
              have HBR2 := Lib.hid (HBR.out.trans (BQ.out.mono HBR.out.size))
              have HSC := Lib.hid (Selects_any (.pointer (some ⟨lb, 0, none⟩)) f N Ao co wr (fun s W hs hB => HVW.out s W hs (BQ.out.trans (hB.mono BQ.out.size))) HRO2.out (by omega) HZ.out)
              have HSEL : Hid ((fun s => verdF (its2.map RIt.it) (chars s)) = f) := Lib.hid (by
                funext s
                rw [HMAP.out]
                exact HFS.out s)
              clear HG HRW b4' HVW HQ HRO HRF HBR BQ
              go_wp2_with fail
              refine HSC.out.mono ?_
              rintro e w5 ⟨rfl, b5⟩
              have HRO3 := Lib.hid (rv_later HRO2.out b5)
              have HRF3 := Lib.hid (HRF2.out.later b5)
              have HBR3 := Lib.hid (HBR2.out.trans (b5.mono HBR2.out.size))
              clear b5 HSC HRO2 HRF2 HBR2
              go_wp2_with fail
              refine (RSelects_any _ _ _ _ _ _ _ HRF3.out HRO3.out (by omega) HZ.out).mono ?_
              rintro e w6 ⟨rfl, b6⟩
              rw [HSEL.out]
              have HBR4 := Lib.hid (HBR3.out.trans (b6.mono HBR3.out.size))
              clear b6 HRO3 HRF3 HBR3
              generalize selGo f N false = sv
              go_wp2_with fail
              go_ret
              exact ⟨rfl, HBR4.out⟩
    · exact absurd h0 hn
  · have e0 : ((R.2.2 : Int) != 0) = true := by rw [bne_iff_ne]; omega
    rcases H1.out with ⟨hn, _⟩ | ⟨_, rfl⟩
    · exact absurd hn h0
    · clear H1 h0
      go_wp2_with fail
      refine (known_any m _ (cell_later0 HM.out B2.out h00.out)).mono ?_
      rintro e w4 ⟨rfl, b4⟩
      have B4 := Lib.hid (B2.out.trans (b4.mono B2.out.size))
      clear b4
      go_wp2_with fail
      refine (known_any m _ (cell_later0 HM.out B4.out h00.out)).mono ?_
      rintro e w5 ⟨rfl, b5⟩
      have B5 := Lib.hid (B4.out.trans (b5.mono B4.out.size))
      clear b5
      go_wp2_with fail
      go_ret
      exact ⟨rfl, B5.out⟩

end Go.Proofs.YtgnmanmlnbidfaaDoor
