/- Wildmat: parseClass, by a walk through its text. -/
import Derived.Test.YtgnmanmlnbidfaaDoorCls
import Derived.StillTailTactics
namespace Go.Proofs.YtgnmanmlnbidfaaDoor
open Go.RowKit

theorem pre_hat {s : ByteArray} (h0 : (chars s).getD 0 0 = 91) : preB s ⟨#[91, 94]⟩ = decide ((chars s).getD 1 0 = 94) := by
  obtain ⟨l, hl⟩ : ∃ l, s.data.toList = l := ⟨_, rfl⟩
  have hsz : s.size = l.length := by rw [← hl]; simp
  have hx : (s.extract 0 2).toList = l.take 2 := by rw [ByteArray.toList_eq, Lib.extract_data, hl]; rfl
  have hp : (⟨#[91, 94]⟩ : ByteArray).toList = [91, 94] := by rw [ByteArray.toList_mk]
  have hc : chars s = l.map UInt8.toNat := by rw [chars, hl]
  rw [preB, show (⟨#[91, 94]⟩ : ByteArray).size = 2 from rfl, hx, hp, hsz]
  rw [hc] at h0 ⊢
  cases l with
  | nil => simp at h0
  | cons a l =>
    have ha : a = 91 := by
      apply UInt8.toNat.inj
      simpa using h0
    subst ha
    cases l with
    | nil => simp
    | cons b l =>
      have hb : b.toNat = 94 ↔ b = 94 := ⟨fun h => UInt8.toNat.inj (by rw [h]; rfl), fun h => by rw [h]; rfl⟩
      simp only [List.length_cons, List.take_succ_cons, List.take_zero, List.map_cons, List.getD_cons_succ, List.getD_cons_zero, hb]
      rw [Bool.eq_iff_iff]; simp

set_option maxRecDepth 100000 in
set_option maxHeartbeats 2000000 in
theorem parseClass_any (s : ByteArray) (w : World) (hs : s.size ≤ 100) (h0 : (chars s).getD 0 0 = 91) (h1 : 0 < s.size) :
    Calls Tryd.prog 32 #[.string s] w fun e w' => (∃ (x : ByteArray) (i : Bool) (n : Nat), e = .returned (.tuple #[.agg #[.string x, .bool i], .int .i64 n]) ∧ Hid (ClsAns (classF ((chars s).drop 1)) s.size x i n)) ∧ Below w.heap.size w w' := by
  have hpre := pre_hat h0
  have HP := Lib.hid hpre
  clear h0 hpre
  go_enter Tryd.func32, Tryd.ntmps32
  go_upto_if 9 with (go_at_call 44; refine (pre_any s _ _).mono ?_; rintro e1 w2 ⟨rfl, rfl⟩)
  obtain ⟨W, hW⟩ : ∃ W, (w.alloc (.cells #[.string ⟨#[]⟩, .bool false] 63)).alloc (.cells #[.string ⟨#[]⟩, .bool false] 63) = W := ⟨_, rfl⟩
  have HB0 : Hid (Below w.heap.size w W) := Lib.hid (by rw [← hW]; exact ((Below.refl _ _).alloc (Nat.le_refl _) _).alloc (by simp) _)
  have HR0 : Hid (W.heap[w.heap.size]? = some (clsB [] false)) := Lib.hid (by rw [← hW, Below.heap_alloc _ _ _ (by simp), heap_alloc_new]; rfl)
  have HE0 : Hid (W.heap[w.heap.size + 1]? = some (clsB [] false)) := Lib.hid (by rw [← hW]; exact heap_alloc2_new _ _ _)
  rw [hW]
  rw [HP.out]
  clear hW
  go_cut [5] (fun va wc => ∃ (F : Nat) (I : Bool), va = .int .i64 F ∧ Hid ((F = 2 ∧ I = true ∧ (chars s).getD 1 0 = 94) ∨ (F = 1 ∧ I = false ∧ (chars s).getD 1 0 ≠ 94)) ∧ Hid (wc.heap[w.heap.size + 1]? = some (clsB [] I)) ∧ Hid (wc.heap[w.heap.size]? = some (clsB [] false)) ∧ Hid (Below w.heap.size w wc))
  case first =>
    obtain ⟨_, c1, _, f1⟩ := clsB_set HE0.out
    by_cases h94 : (chars s).getD 1 0 = 94
    · have hd : decide ((chars s).getD 1 0 = 94) = true := decide_eq_true h94
      have HS := Lib.hid h94
      rw [hd]
      clear h94 hd
      go_wp2_with fail
      go_meet
      case rel =>
        exact ⟨2, true, rfl, Lib.hid (.inl ⟨rfl, rfl, HS.out⟩), Lib.hid (clsB_flag HE0.out), Lib.hid (by rw [Below.heap_setCell _ _ _ _ (by simp)]; exact HR0.out), Lib.hid (HB0.out.setCell (p := ⟨w.heap.size + 1, 1, none⟩) (by simp) _)⟩
    · have hd : decide ((chars s).getD 1 0 = 94) = false := decide_eq_false h94
      have HS := Lib.hid h94
      rw [hd]
      clear h94 hd
      go_wp2_with fail
      go_meet
      case rel => exact ⟨1, false, rfl, Lib.hid (.inr ⟨rfl, rfl, HS.out⟩), HE0, HR0, HB0⟩
  case rest =>
    obtain ⟨F, I, rfl, HF, HE1, HR1, HB1⟩ := hcut
    have hFs : 1 ≤ F ∧ F ≤ 2 := by rcases HF.out with ⟨h, _⟩ | ⟨h, _⟩ <;> omega
    obtain ⟨Rit, hRit⟩ : ∃ Rit, itemsF ((chars s).drop 1).length.succ true [] ((chars s).drop F) = Rit := ⟨_, rfl⟩
    have HR : Hid (classF ((chars s).drop 1) = Rit.map fun x => (El.cls x.1 I, x.2)) := Lib.hid (by
      rw [← hRit]
      unfold classF
      rcases HF.out with ⟨rfl, rfl, h⟩ | ⟨rfl, rfl, h⟩
      · rw [if_pos ((head_at _ _ _ (by omega)).2 h), List.tail_drop]
      · rw [if_neg (fun e => h ((head_at _ _ _ (by omega)).1 e))])
    have HI : Hid (Rit = itemsF ((chars s).drop 1).length.succ true [] ((chars s).drop F)) := Lib.hid hRit.symm
    have hl : Hid (((chars s).drop 1).length.succ = s.size) := Lib.hid (by rw [List.length_drop, chars_length]; omega)
    rw [hl.out] at HI
    clear hRit
    go_wp2_with fail
    go_loopw [5] (fun va wr => ∃ (k f : Nat) (acc : List Nat), F ≤ k ∧ k ≤ s.size + 3 ∧ va = .int .i64 k ∧ Hid (acc.length ≤ 128 * k) ∧ Hid (s.size < k + f + 1) ∧ Hid (∀ c ∈ acc, c < 256) ∧ Hid (Rit = itemsF f (decide (k = F)) acc ((chars s).drop k)) ∧ Hid (wr.heap[w.heap.size + 1]? = some (clsB acc I)) ∧ Hid (wr.heap[w.heap.size]? = some (clsB [] false)) ∧ Hid (Below w.heap.size w wr)) (fun va _ => (s.size + 3 - intOf va).toNat)
    case atStart => exact ⟨F, s.size, [], by omega, by omega, rfl, Lib.hid (by simp), Lib.hid (by omega), Lib.hid (by simp), Lib.hid (by rw [HI.out]; simp), HE1, HR1, HB1⟩
    case round =>
      obtain ⟨k, f, acc, hFk, hks, rfl, HA, HFu, HC, HIT, HE, HRR, HB⟩ := hrel
      obtain ⟨e0, e1, f0, f1⟩ := clsB_set HE.out
      obtain ⟨r0, r1, g0, g1⟩ := clsB_set HRR.out
      by_cases hlt : k < s.size
      · have hix := chars_get s k hlt
        have hc256 := chars_lt s k
        have hlc : k < (chars s).length := by rw [chars_length]; exact hlt
        by_cases h93 : (chars s).getD k 0 = 93
        · obtain ⟨f', rfl⟩ : ∃ f', f = f' + 1 := ⟨f - 1, by have := HFu.out; omega⟩
          have hcl := items_close f' (decide (k = F)) acc (chars s) hlc h93
          have c93 : (((chars s).getD k 0 : Int) != 93) = false := by rw [h93]; rfl
          have hge2 : ¬ s.size ≤ k := by omega
          generalize (chars s).getD k 0 = c at *
          by_cases hkF : k = F
          · have HN : Hid (Rit = none) := Lib.hid (by rw [HIT.out, hcl, if_pos (by simpa using hkF)])
            have ck : ((k : Int) == (F : Int)) = true := by simp; omega
            clear hcl h93 hkF
            go_wp2_with fail
            exact cls_done (clsB_flag (clsB_store (acc' := acc) HRR.out)) rfl rfl ⟨⟨_, _, 0, rfl, Lib.hid (by rw [HR.out, HN.out]; rfl)⟩, (HB.out.setCell (p := ⟨w.heap.size, 0, none⟩) (Nat.le_refl _) _).setCell (p := ⟨w.heap.size, 1, none⟩) (Nat.le_refl _) _⟩
          · have HN : Hid (Rit = some (acc, s.size - (k + 1))) := Lib.hid (by rw [HIT.out, hcl, if_neg (by simpa using hkF), chars_length])
            have ck : ((k : Int) == (F : Int)) = false := by simp; omega
            clear hcl h93 hkF
            go_wp2_with fail
            exact cls_done (clsB_flag (clsB_store (acc' := acc) HRR.out)) rfl (by go_num) ⟨⟨_, _, k + 1, rfl, Lib.hid (by rw [HR.out, HN.out]; exact ⟨rfl, by omega, by omega⟩)⟩, (HB.out.setCell (p := ⟨w.heap.size, 0, none⟩) (Nat.le_refl _) _).setCell (p := ⟨w.heap.size, 1, none⟩) (Nat.le_refl _) _⟩
        · obtain ⟨f', rfl⟩ : ∃ f', f = f' + 1 := ⟨f - 1, by have := HFu.out; omega⟩
          have c93 : (((chars s).getD k 0 : Int) != 93) = true := by simp only [bne_iff_ne, ne_eq]; omega
          by_cases hnb : namedB ((chars s).getD k 0) = true
          · have HNB := Lib.hid hnb
            have hcl : Hid ((chars s).getD k 0 < 128) := Lib.hid (named_lt hnb)
            by_cases h45 : (chars s).getD k 0 = 45
            · have c45 : (((chars s).getD k 0 : Int) == 45) = true := by rw [h45]; rfl
              by_cases hkF : k = F
              · have hst := items_plain f' (decide (k = F)) acc (chars s) hlc hnb (.inl ⟨h45, by simpa using hkF⟩)
                have HIT2 := Lib.hid (HIT.out.trans hst)
                have hlt2 : ¬ F < k := by omega
                clear hst h93 h45 hnb hkF
                generalize (chars s).getD k 0 = c at *
                obtain ⟨SA, hSA⟩ : ∃ SA, bytesOf acc = SA := ⟨_, rfl⟩
                have hen := encode_one hcl.out
                obtain ⟨D, hD⟩ : ∃ D, bytesOf [c] = D := ⟨_, rfl⟩
                have hz1 : SA.size ≤ 20000 := by rw [← hSA, bytesOf_size]; have := HA.out; omega
                have hz2 : D.size ≤ 1 := by rw [← hD, bytesOf_size]; simp
                rw [hD] at hen
                rw [hSA] at e0
                have HSA := Lib.hid hSA
                have HD := Lib.hid hD
                clear hSA hD
                go_wp2_with fail
                refine (named_any _ hc256 _).mono ?_
                rintro e2 w2 ⟨rfl, rfl⟩
                rw [HNB.out]
                go_wp2_with fail
                go_roundw
                case measure => simp [intOf]; omega
                case rel =>
                  exact ⟨k + 1, f', acc ++ [c], by omega, by omega, by go_num, Lib.hid (by have := HA.out; simp; omega), Lib.hid (by have := HFu.out; omega), Lib.hid (fun y hy => (List.mem_append.1 hy).elim (HC.out y) (fun h => by rw [List.mem_singleton.1 h]; exact hc256)), Lib.hid (by rw [HIT2.out, decide_eq_false (by omega : ¬ k + 1 = F)]), Lib.hid (by rw [show SA ++ D = bytesOf (acc ++ [c]) from by rw [bytesOf_append, HSA.out, HD.out]]; exact clsB_store HE.out), Lib.hid (by rw [Below.heap_setCell _ _ _ _ (by simp)]; exact HRR.out), Lib.hid (HB.out.setCell (p := ⟨w.heap.size + 1, 0, none⟩) (by simp) _)⟩
              · have HN : Hid (Rit = none) := Lib.hid (by rw [HIT.out]; exact items_bad _ _ _ _ hlc h93 (.inr ⟨h45, by simpa using hkF⟩))
                have hlt2 : F < k := by omega
                clear h93 h45 hnb hkF
                generalize (chars s).getD k 0 = c at *
                go_wp2_with fail
                refine (named_any _ hc256 _).mono ?_
                rintro e2 w2 ⟨rfl, rfl⟩
                rw [HNB.out]
                go_wp2_with fail
                exact cls_done (clsB_flag (clsB_store (acc' := acc) HRR.out)) rfl rfl ⟨⟨_, _, 0, rfl, Lib.hid (by rw [HR.out, HN.out]; rfl)⟩, (HB.out.setCell (p := ⟨w.heap.size, 0, none⟩) (Nat.le_refl _) _).setCell (p := ⟨w.heap.size, 1, none⟩) (Nat.le_refl _) _⟩
            · have c45 : (((chars s).getD k 0 : Int) == 45) = false := by simp only [beq_eq_false_iff_ne, ne_eq]; omega
              by_cases hk1 : k + 1 < s.size
              · have hlc1 : k + 1 < (chars s).length := by rw [chars_length]; exact hk1
                have hidx1 := fun w => idx_at s (k + 1) hk1 ((k : Int) + 1) (by omega) w
                have g1 : decide ((s.size : Int) ≤ (k : Int) + 1) = false := decide_eq_false (by omega)
                have HK1 := Lib.hid hk1
                clear hk1
                by_cases hd45 : (chars s).getD (k + 1) 0 = 45
                · have d45 : (((chars s).getD (k + 1) 0 : Int) != 45) = false := by rw [hd45]; rfl
                  by_cases hk2 : k + 2 < s.size
                  · have hidx2 := fun w => idx_at s (k + 2) hk2 ((k : Int) + 2) (by omega) w
                    have hc2 := chars_lt s (k + 2)
                    have hlt3 : decide ((k : Int) + 2 < (s.size : Int)) = true := decide_eq_true (by omega)
                    have HK2 := Lib.hid hk2
                    by_cases hs0 : 0 < sortF ((chars s).getD k 0)
                    · by_cases hss : sortF ((chars s).getD k 0) = sortF ((chars s).getD (k + 2) 0)
                      · by_cases hle : (chars s).getD k 0 ≤ (chars s).getD (k + 2) 0
                        · have hrk : rangeOk ((chars s).getD k 0) ((chars s).getD (k + 2) 0) = true := by simp only [rangeOk, decide_eq_true hs0, decide_eq_true hss, decide_eq_true hle, Bool.and_self]
                          have hst := items_range f' (decide (k = F)) acc (chars s) (by rw [chars_length]; exact hk2) hnb h45 hd45 hrk
                          have HIT2 := Lib.hid (HIT.out.trans hst)
                          have hss1 : ((sortF ((chars s).getD k 0) : Int) == (sortF ((chars s).getD (k + 2) 0) : Int)) = true := eq_yes hss
                          have hle1 : decide (((chars s).getD k 0 : Int) ≤ ((chars s).getD (k + 2) 0 : Int)) = true := decide_eq_true (by omega)
                          have HD45 := Lib.hid hd45
                          have HRK := Lib.hid hrk
                          have HCL := Lib.hid hcl
                          clear hst h93 h45 hnb hd45 hss hk2 hrk
                          generalize (chars s).getD k 0 = c at *
                          generalize (chars s).getD (k + 1) 0 = d1 at *
                          generalize (chars s).getD (k + 2) 0 = d at *
                          obtain ⟨SA, hSA⟩ : ∃ SA, bytesOf acc = SA := ⟨_, rfl⟩
                          have HBT := fun w => between_any c d HRK.out w
                          have hrl : (rangeL c d).length ≤ 128 := rangeL_len HRK.out
                          have hrs : Hid (∀ y ∈ rangeL c d, y < 256) := Lib.hid (rangeL_lt HRK.out)
                          obtain ⟨D, hD⟩ : ∃ D, bytesOf (rangeL c d) = D := ⟨_, rfl⟩
                          have hz1 : SA.size ≤ 20000 := by rw [← hSA, bytesOf_size]; have := HA.out; omega
                          have hz2 : D.size ≤ 128 := by rw [← hD, bytesOf_size]; exact hrl
                          rw [hD] at HBT
                          rw [hSA] at e0
                          have HSA := Lib.hid hSA
                          have HD := Lib.hid hD
                          have HBTH := Lib.hid HBT
                          have hrl2 := Lib.hid hrl
                          clear hSA hD HBT hrl
                          go_wp2_with fail
                          refine (named_any _ hc256 _).mono ?_
                          rintro e2 w2 ⟨rfl, rfl⟩
                          rw [HNB.out]
                          go_wp2_with fail
                          have hw2 := wraps_i64 ((k : Int) + 2) (by omega) (by omega)
                          go_quiet ((go_at_call 47; exact Calls.quiet_of_same (sort_q _ _)))
                          clear hw2
                          go_wp2_with fail
                          have e0q : (wr.drewN nq).cell? ⟨w.heap.size + 1, 0, none⟩ = some (.string SA) := e0
                          have f0q : (wr.drewN nq).frozen? ⟨w.heap.size + 1, 0, none⟩ = false := f0
                          have HEQ : Hid ((wr.drewN nq).heap[w.heap.size + 1]? = some (clsB acc I)) := Lib.hid HE.out
                          have HRQ : Hid ((wr.drewN nq).heap[w.heap.size]? = some (clsB [] false)) := Lib.hid HRR.out
                          have HBQ : Hid (Below w.heap.size w (wr.drewN nq)) := Lib.hid (below_drewN HB.out _)
                          clear e0 f0
                          generalize wr.drewN nq = WQ at *
                          have hw2 := wraps_i64 ((k : Int) + 2) (by omega) (by omega)
                          go_still_tail 10, (by kernel_rfl)
                          have hcc : ¬ 9223372036854775807 < SA.size + D.size := by omega
                          still_call (HBTH.out _)
                          repeat still_step
                          refine wpStill_nil ?_
                          clear hw2
                          change wpList _ _ _ _ _ WQ.drew
                          have e0d : WQ.drew.cell? ⟨w.heap.size + 1, 0, none⟩ = some (.string SA) := e0q
                          have f0d : WQ.drew.frozen? ⟨w.heap.size + 1, 0, none⟩ = false := f0q
                          have HED : Hid (WQ.drew.heap[w.heap.size + 1]? = some (clsB acc I)) := Lib.hid HEQ.out
                          have HRD : Hid (WQ.drew.heap[w.heap.size]? = some (clsB [] false)) := Lib.hid HRQ.out
                          have HBD : Hid (Below w.heap.size w WQ.drew) := Lib.hid HBQ.out.drew
                          clear e0q f0q
                          generalize WQ.drew = WD at *
                          go_wp2_with fail
                          go_roundw
                          case measure => simp [intOf]; omega
                          case rel =>
                            exact ⟨k + 3, f', acc ++ rangeL c d, by omega, by omega, by go_num, Lib.hid (by have := HA.out; have := hrl2.out; simp; omega), Lib.hid (by have := HFu.out; omega), Lib.hid (fun y hy => (List.mem_append.1 hy).elim (HC.out y) (fun h => hrs.out y h)), Lib.hid (by rw [HIT2.out, decide_eq_false (by omega : ¬ k + 3 = F)]), Lib.hid (by rw [show SA ++ D = bytesOf (acc ++ rangeL c d) from by rw [bytesOf_append, HSA.out, HD.out]]; exact clsB_store HED.out), Lib.hid (by rw [Below.heap_setCell _ _ _ _ (by simp)]; exact HRD.out), Lib.hid (HBD.out.setCell (p := ⟨w.heap.size + 1, 0, none⟩) (by simp) _)⟩
                        · have HN : Hid (Rit = none) := Lib.hid (by rw [HIT.out]; exact items_norange _ _ _ _ hlc1 hnb h45 hd45 (.inr (by simp only [rangeOk, decide_eq_false hle, Bool.and_false])))
                          have hss1 : ((sortF ((chars s).getD k 0) : Int) == (sortF ((chars s).getD (k + 2) 0) : Int)) = true := eq_yes hss
                          have hle1 : decide (((chars s).getD k 0 : Int) ≤ ((chars s).getD (k + 2) 0 : Int)) = false := decide_eq_false (by omega)
                          have HD45 := Lib.hid hd45
                          clear h93 h45 hnb hd45 hss hk2
                          generalize (chars s).getD k 0 = c at *
                          generalize (chars s).getD (k + 1) 0 = d1 at *
                          generalize (chars s).getD (k + 2) 0 = d at *
                          go_wp2_with fail
                          refine (named_any _ hc256 _).mono ?_
                          rintro e2 w2 ⟨rfl, rfl⟩
                          rw [HNB.out]
                          go_wp2_with fail
                          have hw2 := wraps_i64 ((k : Int) + 2) (by omega) (by omega)
                          go_quiet ((go_at_call 47; exact Calls.quiet_of_same (sort_q _ _)))
                          clear hw2
                          go_wp2_with fail
                          exact cls_done (clsB_flag (clsB_store (w := wr.drewN nq) (acc' := acc) HRR.out)) rfl rfl ⟨⟨_, _, 0, rfl, Lib.hid (by rw [HR.out, HN.out]; rfl)⟩, ((below_drewN HB.out _).setCell (p := ⟨w.heap.size, 0, none⟩) (Nat.le_refl _) _).setCell (p := ⟨w.heap.size, 1, none⟩) (Nat.le_refl _) _⟩
                      · have HN : Hid (Rit = none) := Lib.hid (by rw [HIT.out]; exact items_norange _ _ _ _ hlc1 hnb h45 hd45 (.inr (by simp only [rangeOk, decide_eq_false hss, Bool.and_false, Bool.false_and])))
                        have hss1 : ((sortF ((chars s).getD k 0) : Int) == (sortF ((chars s).getD (k + 2) 0) : Int)) = false := eq_no hss
                        have HD45 := Lib.hid hd45
                        clear h93 h45 hnb hd45 hss hk2
                        generalize (chars s).getD k 0 = c at *
                        generalize (chars s).getD (k + 1) 0 = d1 at *
                        generalize (chars s).getD (k + 2) 0 = d at *
                        go_wp2_with fail
                        refine (named_any _ hc256 _).mono ?_
                        rintro e2 w2 ⟨rfl, rfl⟩
                        rw [HNB.out]
                        go_wp2_with fail
                        have hw2 := wraps_i64 ((k : Int) + 2) (by omega) (by omega)
                        go_quiet ((go_at_call 47; exact Calls.quiet_of_same (sort_q _ _)))
                        clear hw2
                        go_wp2_with fail
                        exact cls_done (clsB_flag (clsB_store (w := wr.drewN nq) (acc' := acc) HRR.out)) rfl rfl ⟨⟨_, _, 0, rfl, Lib.hid (by rw [HR.out, HN.out]; rfl)⟩, ((below_drewN HB.out _).setCell (p := ⟨w.heap.size, 0, none⟩) (Nat.le_refl _) _).setCell (p := ⟨w.heap.size, 1, none⟩) (Nat.le_refl _) _⟩
                    · have HN : Hid (Rit = none) := Lib.hid (by rw [HIT.out]; exact items_norange _ _ _ _ hlc1 hnb h45 hd45 (.inr (by simp only [rangeOk, decide_eq_false hs0, Bool.false_and])))
                      have hs00 : sortF ((chars s).getD k 0) = 0 := by omega
                      have HD45 := Lib.hid hd45
                      clear h93 h45 hnb hd45 hs0 hk2
                      generalize (chars s).getD k 0 = c at *
                      generalize (chars s).getD (k + 1) 0 = d1 at *
                      generalize (chars s).getD (k + 2) 0 = d at *
                      go_wp2_with fail
                      refine (named_any _ hc256 _).mono ?_
                      rintro e2 w2 ⟨rfl, rfl⟩
                      rw [HNB.out]
                      go_wp2_with fail
                      have hw2 := wraps_i64 ((k : Int) + 2) (by omega) (by omega)
                      go_quiet ((go_at_call 47; exact Calls.quiet_of_same (sort_q _ _)))
                      clear hw2
                      go_wp2_with fail
                      exact cls_done (clsB_flag (clsB_store (w := wr.drewN nq) (acc' := acc) HRR.out)) rfl rfl ⟨⟨_, _, 0, rfl, Lib.hid (by rw [HR.out, HN.out]; rfl)⟩, ((below_drewN HB.out _).setCell (p := ⟨w.heap.size, 0, none⟩) (Nat.le_refl _) _).setCell (p := ⟨w.heap.size, 1, none⟩) (Nat.le_refl _) _⟩
                  · have hlt4 : decide ((k : Int) + 2 < (s.size : Int)) = false := decide_eq_false (by omega)
                    have HN : Hid (Rit = none) := Lib.hid (by rw [HIT.out]; exact items_norange _ _ _ _ hlc1 hnb h45 hd45 (.inl (by rw [chars_length]; omega)))
                    have HD45 := Lib.hid hd45
                    clear h93 h45 hnb hd45 hk2
                    generalize (chars s).getD k 0 = c at *
                    generalize (chars s).getD (k + 1) 0 = d1 at *
                    go_wp2_with fail
                    refine (named_any _ hc256 _).mono ?_
                    rintro e2 w2 ⟨rfl, rfl⟩
                    rw [HNB.out]
                    go_wp2_with fail
                    have hw2 := wraps_i64 ((k : Int) + 2) (by omega) (by omega)
                    go_quiet ((fail))
                    clear hw2
                    go_wp2_with fail
                    exact cls_done (clsB_flag (clsB_store (w := wr.drewN nq) (acc' := acc) HRR.out)) rfl rfl ⟨⟨_, _, 0, rfl, Lib.hid (by rw [HR.out, HN.out]; rfl)⟩, ((below_drewN HB.out _).setCell (p := ⟨w.heap.size, 0, none⟩) (Nat.le_refl _) _).setCell (p := ⟨w.heap.size, 1, none⟩) (Nat.le_refl _) _⟩
                · have d45 : (((chars s).getD (k + 1) 0 : Int) != 45) = true := by simp only [bne_iff_ne, ne_eq]; omega
                  have hst := items_plain f' (decide (k = F)) acc (chars s) hlc hnb (.inr ⟨h45, hd45⟩)
                  have HIT2 := Lib.hid (HIT.out.trans hst)
                  have HD45 := Lib.hid hd45
                  clear hst h93 h45 hnb hd45
                  generalize (chars s).getD k 0 = c at *
                  generalize (chars s).getD (k + 1) 0 = d1 at *
                  obtain ⟨SA, hSA⟩ : ∃ SA, bytesOf acc = SA := ⟨_, rfl⟩
                  have hen := encode_one hcl.out
                  obtain ⟨D, hD⟩ : ∃ D, bytesOf [c] = D := ⟨_, rfl⟩
                  have hz1 : SA.size ≤ 20000 := by rw [← hSA, bytesOf_size]; have := HA.out; omega
                  have hz2 : D.size ≤ 1 := by rw [← hD, bytesOf_size]; simp
                  rw [hD] at hen
                  rw [hSA] at e0
                  have HSA := Lib.hid hSA
                  have HD := Lib.hid hD
                  clear hSA hD
                  go_wp2_with fail
                  refine (named_any _ hc256 _).mono ?_
                  rintro e2 w2 ⟨rfl, rfl⟩
                  rw [HNB.out]
                  go_wp2_with fail
                  go_roundw
                  case measure => simp [intOf]; omega
                  case rel =>
                    exact ⟨k + 1, f', acc ++ [c], by omega, by omega, by go_num, Lib.hid (by have := HA.out; simp; omega), Lib.hid (by have := HFu.out; omega), Lib.hid (fun y hy => (List.mem_append.1 hy).elim (HC.out y) (fun h => by rw [List.mem_singleton.1 h]; exact hc256)), Lib.hid (by rw [HIT2.out, decide_eq_false (by omega : ¬ k + 1 = F)]), Lib.hid (by rw [show SA ++ D = bytesOf (acc ++ [c]) from by rw [bytesOf_append, HSA.out, HD.out]]; exact clsB_store HE.out), Lib.hid (by rw [Below.heap_setCell _ _ _ _ (by simp)]; exact HRR.out), Lib.hid (HB.out.setCell (p := ⟨w.heap.size + 1, 0, none⟩) (by simp) _)⟩
              · have g1 : decide ((s.size : Int) ≤ (k : Int) + 1) = true := decide_eq_true (by omega)
                have hd45 : (chars s).getD (k + 1) 0 ≠ 45 := by
                  rw [List.getD_eq_getElem?_getD, List.getElem?_eq_none (by rw [chars_length]; omega)]
                  decide
                have hst := items_plain f' (decide (k = F)) acc (chars s) hlc hnb (.inr ⟨h45, hd45⟩)
                have HIT2 := Lib.hid (HIT.out.trans hst)
                have HD45 := Lib.hid hd45
                clear hst h93 h45 hnb hd45 hk1
                generalize (chars s).getD k 0 = c at *
                obtain ⟨SA, hSA⟩ : ∃ SA, bytesOf acc = SA := ⟨_, rfl⟩
                have hen := encode_one hcl.out
                obtain ⟨D, hD⟩ : ∃ D, bytesOf [c] = D := ⟨_, rfl⟩
                have hz1 : SA.size ≤ 20000 := by rw [← hSA, bytesOf_size]; have := HA.out; omega
                have hz2 : D.size ≤ 1 := by rw [← hD, bytesOf_size]; simp
                rw [hD] at hen
                rw [hSA] at e0
                have HSA := Lib.hid hSA
                have HD := Lib.hid hD
                clear hSA hD
                go_wp2_with fail
                refine (named_any _ hc256 _).mono ?_
                rintro e2 w2 ⟨rfl, rfl⟩
                rw [HNB.out]
                go_wp2_with fail
                go_roundw
                case measure => simp [intOf]; omega
                case rel =>
                  exact ⟨k + 1, f', acc ++ [c], by omega, by omega, by go_num, Lib.hid (by have := HA.out; simp; omega), Lib.hid (by have := HFu.out; omega), Lib.hid (fun y hy => (List.mem_append.1 hy).elim (HC.out y) (fun h => by rw [List.mem_singleton.1 h]; exact hc256)), Lib.hid (by rw [HIT2.out, decide_eq_false (by omega : ¬ k + 1 = F)]), Lib.hid (by rw [show SA ++ D = bytesOf (acc ++ [c]) from by rw [bytesOf_append, HSA.out, HD.out]]; exact clsB_store HE.out), Lib.hid (by rw [Below.heap_setCell _ _ _ _ (by simp)]; exact HRR.out), Lib.hid (HB.out.setCell (p := ⟨w.heap.size + 1, 0, none⟩) (by simp) _)⟩
          · have hnb : namedB ((chars s).getD k 0) = false := by simpa using hnb
            have HN : Hid (Rit = none) := Lib.hid (by rw [HIT.out]; exact items_bad _ _ _ _ hlc h93 (.inl hnb))
            clear h93
            generalize (chars s).getD k 0 = c at *
            go_wp2_with fail
            refine (named_any _ hc256 _).mono ?_
            rintro e2 w2 ⟨rfl, rfl⟩
            rw [hnb]
            go_wp2_with fail
            exact cls_done (clsB_flag (clsB_store (acc' := acc) HRR.out)) rfl rfl ⟨⟨_, _, 0, rfl, Lib.hid (by rw [HR.out, HN.out]; rfl)⟩, (HB.out.setCell (p := ⟨w.heap.size, 0, none⟩) (Nat.le_refl _) _).setCell (p := ⟨w.heap.size, 1, none⟩) (Nat.le_refl _) _⟩
      · have HN : Hid (Rit = none) := Lib.hid (by rw [HIT.out]; exact items_end _ _ _ _ (by rw [chars_length]; omega))
        have hge : decide ((s.size : Int) ≤ (k : Int)) = true := decide_eq_true (by omega)
        have hge2 : s.size ≤ k := by omega
        go_wp2_with fail
        exact cls_done (clsB_flag (clsB_store (acc' := acc) HRR.out)) rfl rfl ⟨⟨_, _, 0, rfl, Lib.hid (by rw [HR.out, HN.out]; rfl)⟩, (HB.out.setCell (p := ⟨w.heap.size, 0, none⟩) (Nat.le_refl _) _).setCell (p := ⟨w.heap.size, 1, none⟩) (Nat.le_refl _) _⟩

end Go.Proofs.YtgnmanmlnbidfaaDoor
