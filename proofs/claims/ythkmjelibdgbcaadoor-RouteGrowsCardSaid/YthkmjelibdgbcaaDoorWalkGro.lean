/- Route: the law RouteGrows, by a walk through its text. -/
import Derived.Test.YthkmjelibdgbcaaDoorWalkPre
namespace Go.Proofs.YthkmjelibdgbcaaDoor
open Go.RowKit

theorem prep_err {l : List ByteArray} {x : ByteArray} (h : (prepF l x).2 ≠ 0) : (prepF l x).1 = [] := by
  unfold prepF at h ⊢
  split
  · rfl
  · split
    · rfl
    · rename_i h1 h2
      rw [if_neg h1, if_neg h2] at h
      exact absurd rfl h

theorem prep_site {l : List ByteArray} {x : ByteArray} (h : (prepF l x).2 = 0) : (siteL (chars x)).2 = 0 := by
  unfold prepF at h
  split at h
  · rename_i h1
    exact absurd h h1
  · rename_i h1
    simpa using h1

theorem check_of {l : List ByteArray} (h1 : l.length ≤ 50) (h2 : ∀ x ∈ l, (siteL (chars x)).2 = 0) : checkF l = 0 := by
  unfold checkF
  rw [if_neg (by omega)]
  exact errsF_none (fun j hj => h2 _ (mem_at hj))

theorem Same_len (A B : Option Addr) (ca cb n : Nat) (l : List ByteArray) (w : World) (hl : ReadsS w A l) (hm : ReadsS w B l) (hn : l.length ≤ 1000000) (he : l.length = n) :
    Calls Tryd.prog 13 #[.slice A l.length ca, .slice B n cb] w fun e w' => e = .returned (.bool true) ∧ Below w.heap.size w w' := by
  subst he
  exact Same_refl A B ca cb l w hl hm hn

/-- What a round of the law knows. -/
def Grown2 (r want : List ByteArray) : Prop := r = want.take 50 ∧ checkF r = 0

theorem grown_next {r want : List ByteArray} {x : ByteArray} (h : Grown2 r want) (hx : (prepF r x).2 = 0) : Grown2 (prepF r x).1 (x :: want) := by
  obtain ⟨h1, h2⟩ := h
  obtain ⟨h3, h4⟩ := check_zero h2
  have e : (x :: r).take 50 = (x :: want).take 50 := by
    rw [h1]
    show x :: (want.take 50).take 49 = x :: want.take 49
    rw [List.take_take]
    rfl
  rw [prep_ok hx]
  refine ⟨e, check_of (by simp; omega) (fun y hy => ?_)⟩
  have hy := List.mem_of_mem_take hy
  rcases List.mem_cons.1 hy with rfl | hy
  · exact prep_site hx
  · exact h4 y hy

theorem grown_has {r : List ByteArray} {x : ByteArray} (hx : (prepF r x).2 = 0) : hasB (prepF r x).1 x = true := by
  rw [prep_ok hx]
  exact hasB_yes (k := 0) (by simp) rfl

set_option maxHeartbeats 4000000 in
theorem grows_walk (A : Option Addr) (ca : Nat) (l : List ByteArray) (m : Int) (w : World) (hm : w.cell? ⟨0, 0, none⟩ = some (.int .i64 m)) (hr : ReadsS w A l) :
    Calls Tryd.prog 6 #[.slice A l.length ca] w fun e w' => e = .returned (.bool true) ∧ Below w.heap.size w w' := by
  have HM := Lib.hid hm
  have h0 := Lib.hid (cell_lt hm)
  have HR := Lib.hid hr
  clear hm hr
  go_enter Tryd.func6, Tryd.ntmps6
  go_wp2_with fail
  go_loopw [3, 4, 5] (fun vr vw vi wr => ∃ (k : Nat) (r want : List ByteArray), k ≤ l.length ∧ k ≤ 120 ∧ vi = .int .i64 k ∧ want.length ≤ k ∧ r.length ≤ 50 ∧ Hid (Grown2 r want) ∧ (∃ A' c', vr = .slice A' r.length c' ∧ Hid (ReadsS wr A' r ∧ (A' = none → c' = 0))) ∧ (∃ A' c', vw = .slice A' want.length c' ∧ Hid (ReadsS wr A' want ∧ want.length ≤ c' ∧ (A' = none → c' = 0))) ∧ Below w.heap.size w wr) (fun _ _ vi _ => (l.length - intOf vi).toNat)
  case atStart => exact ⟨0, [], [], by omega, by omega, rfl, by simp, by simp, Lib.hid ⟨rfl, rfl⟩, ⟨none, 0, rfl, Lib.hid ⟨.inl rfl, fun _ => rfl⟩⟩, ⟨none, 0, rfl, Lib.hid ⟨.inl rfl, by simp, fun _ => rfl⟩⟩, Below.refl _ _⟩
  case round =>
    obtain ⟨k, r, want, hk, hk2, rfl, hwl, hrl, HG, ⟨Ar, cr, rfl, HRR⟩, ⟨Aw, cw, rfl, HRW⟩, HB⟩ := hrel
    by_cases hgo : k < l.length ∧ k < 120
    · obtain ⟨hlt, h120⟩ := hgo
      obtain ⟨b1, o1, hA, hb1, hc1⟩ := (HR.out.below HB).at hlt
      subst hA
      have d1 : decide ((k : Int) < (l.length : Int)) = true := decide_eq_true (by omega)
      have d2 : decide ((k : Int) < 120) = true := decide_eq_true (by omega)
      have i1 : (k : Int) < (l.length : Int) := by omega
      generalize l.getD k ByteArray.empty = y at *
      obtain ⟨n, hn⟩ : ∃ n : Nat, min (y.size : Int) 40 = (n : Int) := ⟨min y.size 40, by omega⟩
      have hnl : n ≤ y.size := by omega
      obtain ⟨la, ea, hpe⟩ : ∃ la ea, Hid (prepF r (y.extract 0 n) = (la, ea)) := ⟨_, _, Lib.hid rfl⟩
      have HPC : Hid (∀ W, ReadsS W Ar r → Calls Tryd.prog 19 #[.slice Ar r.length cr, .string (y.extract 0 n)] W (Made2 W la ea)) := Lib.hid (fun W h => by
        have h := Prepend_any Ar cr r (y.extract 0 n) W h (by omega) HRR.out.2
        rw [hpe.out] at h
        exact h)
      go_wp2_with fail
      go_cut [6, 7] (fun vn ve wc => ∃ A3 cap3, vn = .slice A3 la.length cap3 ∧ ve = .int .i64 (ea : Nat) ∧ Hid (ReadsS wc A3 la ∧ (A3 = none → cap3 = 0)) ∧ Below wr.heap.size wr wc)
      case first =>
        go_region_with (go_at_call 19; refine (HPC.out wr.drew HRR.out.1.drew).mono ?_; rintro e w3 ⟨A3, cap3, rfl, O3, b3⟩; have O3 := Lib.hid O3; have b3 := Lib.hid b3)
        all_goals go_wp2_with fail
        all_goals go_meet
        all_goals exact ⟨A3, cap3, rfl, rfl, Lib.hid ⟨O3.out.open_.1, O3.out.open_.2.2⟩, ((Below.refl _ _).drew).trans b3.out⟩
      case rest =>
        obtain ⟨A3, cap3, rfl, rfl, HR3, HB3⟩ := hcut
        obtain ⟨W3, hW3⟩ : ∃ W3, W3 = wc := ⟨_, rfl⟩
        subst hW3
        have B3 := Lib.hid (HB.trans (HB3.mono HB.size))
        have HRW3 : Hid (ReadsS W3 Aw want) := Lib.hid (HRW.out.1.below HB3)
        have HRR3 : Hid (ReadsS W3 Ar r) := Lib.hid (HRR.out.1.below HB3)
        have hc3 := (HB3.cell (p := ⟨b1, o1 + k, none⟩) hb1).trans hc1
        clear hc1
        by_cases he : ea = 0
        · have b0 := nz_no he
          have hx : (prepF r (y.extract 0 n)).2 = 0 := by rw [hpe.out]; exact he
          have HG2 := grown_next HG.out hx
          have HH := grown_has hx
          rw [hpe.out] at HG2 HH
          simp only at HG2 HH
          have HG3 := Lib.hid HG2
          have HHB := Lib.hid HH
          have hll : la.length ≤ 50 := (check_zero HG2.2).1
          have HCK : Hid (checkF la = 0) := Lib.hid HG2.2
          have hbs := Nat.lt_of_lt_of_le hb1 HB3.size
          clear he hx HG2 HH
          go_wp2_with fail
          go_cut [4] (fun vw2 WQ => ∃ A5 cap5, vw2 = .slice A5 (want.length + 1) cap5 ∧ Hid (OwnS WQ W3.heap.size (.slice A5 (y.extract 0 n :: want).length cap5) (y.extract 0 n :: want)) ∧ Below W3.heap.size W3 WQ)
          case first =>
            go_region_law (refine step_append_str rfl (.tmp 51) (.tmp 52) 22 Tryd.underlying22 rfl W3.heap.size _ [y.extract 0 n] (by simp [Act.eval, Act.put]) (own_one W3.drew (y.extract 0 n)) Aw want.length cw (by simp [Act.eval, Act.put]) want rfl (HRW3.out.below ((Below.refl W3.heap.size W3).drew.alloc (Nat.le_refl _) _)) HRW.out.2.2 (by simp; omega) (by simp) (y.extract 0 n :: want) rfl ?_; intro A5 cap5 w5 HO5 HG5; have HO5 := Lib.hid HO5; have HG5 := Lib.hid HG5)
            all_goals go_wp2_with fail
            all_goals go_meet
            all_goals exact ⟨A5, cap5, rfl, HO5, ((Below.refl W3.heap.size W3).drew.alloc (Nat.le_refl _) _).grown HG5.out (by simp) (fun j e => ((own_one W3.drew (y.extract 0 n)).blk j e).1)⟩
          case rest =>
            obtain ⟨A5, cap5, rfl, HO5, HB5⟩ := hcut
            obtain ⟨R5, hc5, hn5⟩ := HO5.out.open_
            obtain ⟨b5, o5, hA5⟩ := R5.some_of (by simp)
            subst hA5
            have kx : wc.cell? ⟨b5, o5, none⟩ = some (.string (y.extract 0 n)) := by
              obtain ⟨_, _, e1, _, hcx⟩ := R5.at (k := 0) (by simp)
              cases e1
              exact hcx
            have hb5 : b5 < wc.heap.size := cell_lt kx
            have hwl1 : (y.extract 0 n :: want).length = want.length + 1 := rfl
            obtain ⟨n2, hn2⟩ : ∃ n2 : Nat, min ((want.length : Int) + 1) 50 = (n2 : Int) := ⟨min (want.length + 1) 50, by omega⟩
            have hn2c : n2 ≤ cap5 := by rw [hwl1] at hc5; omega
            have hlla : la.length = n2 := by rw [HG3.out.1, List.length_take, hwl1]; omega
            have HLA := Lib.hid hlla
            have RT : ReadsS wc (some ⟨b5, o5, none⟩) la := by rw [HG3.out.1]; exact R5.take 50
            have HRT := Lib.hid RT
            have HR5 := Lib.hid R5
            have HC5 := Lib.hid hc5
            have HN5 := Lib.hid hn5
            have B5 := Lib.hid (B3.out.trans (HB5.mono B3.out.size))
            have RA5 := Lib.hid (HR3.out.1.below HB5)
            have KX := Lib.hid kx
            clear hwl1 hlla RT R5 hc5 hn5 HB3 HB5
            have i0 : (0 : Int) < (want.length : Int) + 1 := by omega
            go_wp2_with fail
            refine (Check_any A3 cap3 la wc RA5.out (by omega)).mono ?_
            rintro e w6 ⟨rfl, rfl⟩
            rw [HCK.out]
            go_wp2_with fail
            refine (Same_len A3 _ cap3 _ n2 la wc RA5.out HRT.out (by omega) HLA.out).mono ?_
            rintro e w6 ⟨rfl, b6⟩
            have B6 := Lib.hid (B5.out.trans (b6.mono B5.out.size))
            have kx := (b6.cell (p := ⟨b5, o5, none⟩) hb5).trans KX.out
            have RA6 := Lib.hid (RA5.out.below b6)
            have RR6 := Lib.hid (HR5.out.below b6)
            clear b6
            go_wp2_with fail
            refine (Contains_any A3 cap3 la (y.extract 0 n) w6 RA6.out (by omega)).mono ?_
            rintro e w7 ⟨rfl, rfl⟩
            rw [HHB.out]
            go_wp2_with fail
            go_roundw
            case rel => exact ⟨k + 1, la, y.extract 0 n :: want, by omega, by omega, by simp, by simp; omega, hll, HG3, ⟨A3, cap3, rfl, Lib.hid ⟨RA6.out, HR3.out.2⟩⟩, ⟨_, cap5, rfl, Lib.hid ⟨RR6.out, HC5.out, HN5.out⟩⟩, B6.out⟩
            case measure => simp [intOf]; omega
        · have b0 := nz_yes he
          have hla : la = [] := by
            have := prep_err (l := r) (x := y.extract 0 n) (by rw [hpe.out]; exact he)
            rw [hpe.out] at this
            exact this
          subst hla
          clear he
          go_wp2_with fail
          go_roundw
          case rel => exact ⟨k + 1, r, want, by omega, by omega, by simp, by omega, hrl, HG, ⟨Ar, cr, rfl, Lib.hid ⟨HRR3.out, HRR.out.2⟩⟩, ⟨Aw, cw, rfl, Lib.hid ⟨HRW3.out, HRW.out.2⟩⟩, B3.out⟩
          case measure => simp [intOf]; omega
    · have hgone : Hid (¬ (k < l.length ∧ k < 120)) := Lib.hid hgo
      by_cases hlt : k < l.length
      · have d1 : decide ((k : Int) < (l.length : Int)) = true := decide_eq_true (by omega)
        have d2 : decide ((k : Int) < 120) = false := decide_eq_false (by omega)
        have d3 : ¬ k < 120 := by omega
        clear hgo
        go_wp2_with fail
        refine (known_any m wr ((HB.cell (p := ⟨0, 0, none⟩) h0.out).trans HM.out)).mono ?_
        rintro e w6 ⟨rfl, b6⟩
        have B6 := Lib.hid (HB.trans (b6.mono HB.size))
        clear b6
        go_wp2_with fail
        go_ret
        exact ⟨rfl, B6.out⟩
      · have d1 : decide ((k : Int) < (l.length : Int)) = false := decide_eq_false (by omega)
        clear hgo
        go_wp2_with fail
        refine (known_any m wr ((HB.cell (p := ⟨0, 0, none⟩) h0.out).trans HM.out)).mono ?_
        rintro e w6 ⟨rfl, b6⟩
        have B6 := Lib.hid (HB.trans (b6.mono HB.size))
        clear b6
        go_wp2_with fail
        go_ret
        exact ⟨rfl, B6.out⟩

end Go.Proofs.YthkmjelibdgbcaaDoor
