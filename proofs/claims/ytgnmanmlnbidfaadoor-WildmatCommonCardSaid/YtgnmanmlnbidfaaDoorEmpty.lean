/- Wildmat: Empty, by a walk through its text and the library's. -/
import Derived.Test.YtgnmanmlnbidfaaDoorMat
import Derived.Lib.OthersKept
import Derived.Laws.RangeAny
import Derived.Laws.RangeString
namespace Go.Proofs.YtgnmanmlnbidfaaDoor
open Go.RowKit Go.Lib

theorem rune_any (xb : Nat) (e : El) (he : e.small) (r : Nat) (hr : r < 128) (w : World) (hc : w.cell? ⟨xb, 0, none⟩ = some (elV e)) :
    Calls Tryd.prog 39 #[.int .i32 r, .pointer (some ⟨xb, 0, none⟩)] w fun x w' => x = .returned (.bool (e.has r)) ∧ Below w.heap.size w w' := by
  obtain ⟨T, v, fh, fr, PK⟩ := el_pack e he
  rw [PK.val] at hc
  have h1 := PK.metH
  have h2 := PK.entH
  have HH := Lib.hid (PK.has r (by omega))
  clear PK
  go_enter Tryd.func39, Tryd.ntmps39
  go_wp2_with fail
  refine (HH.out _).mono ?_
  rintro e1 w2 ⟨rfl, b2⟩
  go_wp2_with fail
  go_ret
  exact ⟨rfl, b2⟩

theorem nameS_named : ∀ j : Nat, j < 40 → namedB ((chars nameS).getD j 0) = true := by decide +kernel
theorem nameS_mem : ∀ c : Nat, c < 128 → namedB c = true → ∃ j, j < 40 ∧ (chars nameS).getD j 0 = c := by
  have h : ∀ c : Nat, c < 128 → namedB c = true → ((List.range 40).any fun j => (chars nameS).getD j 0 == c) = true := by decide +kernel
  intro c h1 h2
  obtain ⟨j, hj, e⟩ := List.any_eq_true.1 (h c h1 h2)
  exact ⟨j, by simpa using hj, by simpa using e⟩
theorem nameS_lt : ∀ j : Nat, j < 40 → (chars nameS).getD j 0 < 128 := fun j hj => named_lt (nameS_named j hj)

def someB (e : El) : Bool := (List.range 128).any fun c => e.has c

theorem some_yes {e : El} {j : Nat} (hj : j < 40) (h : e.has ((chars nameS).getD j 0) = true) : someB e = true := by
  rw [someB, List.any_eq_true]
  exact ⟨_, by simpa using nameS_lt j hj, h⟩

theorem some_no {e : El} (he : e.ok) (h : ∀ j, j < 40 → e.has ((chars nameS).getD j 0) = false) : someB e = false := by
  rw [someB, List.any_eq_false]
  intro c hc hh
  obtain ⟨j, hj, e1⟩ := nameS_mem c (by simpa using hc) (El.named_of_has he hh)
  have := h j hj
  rw [e1, hh] at this
  cases this

theorem upto_on {P : Nat → Prop} {k : Nat} (H : Hid (∀ j, j < k → P j)) (h : P k) : Hid (∀ j, j < k + 1 → P j) :=
  Lib.hid (fun j hj => by
    rcases Nat.lt_succ_iff_lt_or_eq.1 hj with h' | rfl
    · exact H.out j h'
    · exact h)

set_option maxRecDepth 100000 in
theorem indexFunc_any (xb : Nat) (e : El) (he : e.small) (ho : e.ok) (w : World) (hx : xb < w.heap.size) (hc : w.cell? ⟨xb, 0, none⟩ = some (elV e)) :
    Calls Tryd.prog 57 #[.string nameS, .func (.func 39) #[] #[.pointer (some ⟨xb, 0, none⟩)], .bool true] w fun x w' => (∃ n : Int, x = .returned (.int .i64 n) ∧ Hid (decide (0 ≤ n) = someB e)) ∧ Below w.heap.size w w' := by
  have HC := Lib.hid hc
  have hns : nameS.size = 40 := rfl
  obtain ⟨N, hN⟩ : ∃ N, nameS = N := ⟨_, rfl⟩
  have HN := Lib.hid hN
  clear hc
  rw [hN] at hns
  rw [hN]
  clear hN
  go_enter Tryd.func57, Tryd.ntmps57
  go_wp2_with fail
  have HI0 : Hid ((w.iter N 0).heap[w.heap.size]? = some (.stringIter N 0)) := Lib.hid (World.iter_heap w N 0)
  have HB0 : Hid (Below w.heap.size w (w.iter N 0)) := Lib.hid ((Below.refl _ _).alloc (Nat.le_refl _) _)
  generalize w.iter N 0 = w0 at *
  go_loopw [7] (fun _ wr => ∃ k : Nat, k ≤ 40 ∧ Hid (wr.heap[w.heap.size]? = some (.stringIter N k)) ∧ Hid (∀ j, j < k → e.has ((chars nameS).getD j 0) = false) ∧ Hid (Below w.heap.size w wr)) (fun _ wr => 40 - wr.iterPos w.heap.size)
  case atStart => exact ⟨0, by omega, HI0, Lib.hid (fun j hj => by omega), HB0⟩
  case round =>
    obtain ⟨k, hk, HI, HJ, HB⟩ := hrel
    by_cases hlt : k < 40
    · have hkN : k < N.size := by omega
      obtain ⟨c, hcc⟩ : ∃ c : Nat, (N[k]'hkN).toNat = c := ⟨_, rfl⟩
      have hcn : Hid ((chars nameS).getD k 0 = c) := Lib.hid (by rw [← hcc, ← chars_get nameS k (show k < 40 from hlt)]; congr 1; simp only [HN.out])
      have hc128 : c < 128 := by rw [← hcn.out]; exact nameS_lt k hlt
      have hnx := fun ty => run_next_ascii_at (P := Tryd.prog) wr w.heap.size N k ty HI.out hkN (by rw [hcc]; exact hc128)
      rw [hcc] at hnx
      have HI2 : Hid ((wr.iterAt w.heap.size N (k + 1)).heap[w.heap.size]? = some (.stringIter N (k + 1))) := Lib.hid (iterAt_heap _ _ _ _ _ HI.out)
      have HB2 : Hid (Below w.heap.size w (wr.iterAt w.heap.size N (k + 1))) := Lib.hid (below_iterAt HB.out (Nat.le_refl _) _ _)
      have hpos : Hid (wr.iterPos w.heap.size = k) := Lib.hid (by simp only [World.iterPos, HI.out])
      have HCC := Lib.hid hcc
      clear hcc
      generalize wr.iterAt w.heap.size N (k + 1) = W2 at *
      obtain ⟨q, hq⟩ : ∃ q, e.has c = q := ⟨_, rfl⟩
      have HQ := Lib.hid hq
      clear hq
      go_wp2_with fail
      refine (rune_any xb e he c hc128 W2 ((HB2.out.cell (p := ⟨xb, 0, none⟩) hx).trans HC.out)).mono ?_
      rintro e1 w2 ⟨rfl, b2⟩
      have HI3 : Hid (w2.heap[w.heap.size]? = some (.stringIter N (k + 1))) := Lib.hid ((b2.block _ (lt_of_block HI2.out)).trans HI2.out)
      have HB3 : Hid (Below w.heap.size w w2) := Lib.hid (HB2.out.trans (b2.mono HB2.out.size))
      have hpos2 : Hid (w2.iterPos w.heap.size = k + 1) := Lib.hid (by simp only [World.iterPos, HI3.out])
      rw [HQ.out]
      clear b2
      cases q with
      | true =>
        have HS := Lib.hid (some_yes (j := k) hlt (by rw [hcn.out]; exact HQ.out))
        go_wp2_with fail
        go_ret
        exact ⟨⟨k, rfl, Lib.hid (by rw [HS.out]; exact decide_eq_true (by omega))⟩, HB3.out⟩
      | false =>
        have HJ2 := upto_on HJ (by rw [hcn.out]; exact HQ.out)
        go_wp2_with fail
        go_roundw
        case measure => rw [hpos.out, hpos2.out]; omega
        case rel => exact ⟨k + 1, by omega, HI3, HJ2, HB3⟩
    · obtain rfl : k = 40 := by omega
      have hnx := fun ty => run_next_end_at (P := Tryd.prog) wr w.heap.size N 40 ty HI.out (by omega)
      have HS := Lib.hid (some_no ho HJ.out)
      clear hlt hk
      go_wp2_with fail
      go_ret
      exact ⟨⟨-1, rfl, Lib.hid (by rw [HS.out]; rfl)⟩, HB.out⟩

theorem strContains_any (xb : Nat) (e : El) (he : e.small) (ho : e.ok) (w : World) (hx : xb < w.heap.size) (hc : w.cell? ⟨xb, 0, none⟩ = some (elV e)) :
    Calls Tryd.prog 38 #[.string nameS, .func (.func 39) #[] #[.pointer (some ⟨xb, 0, none⟩)]] w fun x w' => x = .returned (.bool (someB e)) ∧ Below w.heap.size w w' := by
  have HC := Lib.hid hc
  clear hc
  have H51 : Calls Tryd.prog 51 #[.string nameS, .func (.func 39) #[] #[.pointer (some ⟨xb, 0, none⟩)]] w fun x w' => (∃ n : Int, x = .returned (.int .i64 n) ∧ Hid (decide (0 ≤ n) = someB e)) ∧ Below w.heap.size w w' := by
    go_enter Tryd.func51, Tryd.ntmps51
    go_wp2_with fail
    refine (indexFunc_any xb e he ho w hx HC.out).mono ?_
    rintro e1 w2 ⟨⟨n, rfl, hn⟩, b2⟩
    go_wp2_with fail
    go_ret
    exact ⟨⟨n, rfl, hn⟩, b2⟩
  have HH := Lib.hid H51
  clear H51
  go_enter Tryd.func38, Tryd.ntmps38
  go_wp2_with fail
  refine HH.out.mono ?_
  rintro e1 w2 ⟨⟨n, rfl, hn⟩, b2⟩
  go_wp2_with fail
  go_ret
  exact ⟨by rw [← hn.out]; rfl, b2⟩

theorem notSome_any (e : El) (he : e.small) (ho : e.ok) (w : World) :
    Calls Tryd.prog 37 #[elV e] w fun x w' => x = .returned (.bool (!someB e)) ∧ Below w.heap.size w w' := by
  have hmf : ∀ (fn : Fn) (first cap : Array Value) (w : World), (Instr.makeFunc fn first cap).run Tryd.prog w = .ok (.func fn first cap) w := fun _ _ _ _ => rfl
  obtain ⟨T, v, fh, fr, PK⟩ := el_pack e he
  have HV := Lib.hid PK.val
  rw [HV.out]
  clear PK
  go_enter Tryd.func37, Tryd.ntmps37
  go_wp2_with fail
  have hxc : Hid ((w.alloc (.cells #[.iface T v] 76)).cell? ⟨w.heap.size, 0, none⟩ = some (elV e)) := Lib.hid (by rw [HV.out]; have h := heap_alloc_new w (.cells #[.iface T v] 76); simp only [World.cell?, h]; rfl)
  have hxl : Hid (w.heap.size < (w.alloc (.cells #[.iface T v] 76)).heap.size) := Lib.hid (by simp)
  have hB : Hid (Below w.heap.size w (w.alloc (.cells #[.iface T v] 76))) := Lib.hid ((Below.refl _ _).alloc (Nat.le_refl _) _)
  generalize w.alloc (.cells #[.iface T v] 76) = W at *
  refine (strContains_any w.heap.size e he ho W hxl.out hxc.out).mono ?_
  rintro e1 w2 ⟨rfl, b2⟩
  have hB2 := Lib.hid (hB.out.trans (b2.mono hB.out.size))
  clear b2
  go_wp2_with fail
  go_ret
  exact ⟨rfl, hB2.out⟩

theorem emptyF_hit {L : List El} {k : Nat} (hk : k < L.length) (h : someB (elAt L k) = false) : emptyF L = true := by
  rw [emptyF, List.any_eq_true]
  exact ⟨elAt L k, elAt_mem hk, by simp only [someB] at h; rw [h]; rfl⟩

theorem emptyF_none {L : List El} (h : ∀ j, j < L.length → someB (elAt L j) = true) : emptyF L = false := by
  rw [emptyF, List.any_eq_false]
  intro e he
  obtain ⟨j, hj, hje⟩ := List.getElem_of_mem he
  have := h j hj
  rw [elAt, List.getD_eq_getElem?_getD, List.getElem?_eq_getElem hj, Option.getD_some, hje] at this
  simp only [someB] at this
  rw [this]; simp

set_option maxRecDepth 100000 in
theorem elIndex_any (b : Nat) (txt : ByteArray) (L : List El) (A : Option Addr) (cap : Nat) (w : World) (hp : IsPat w w.heap.size b txt L A cap) :
    Calls Tryd.prog 50 #[.slice A L.length cap, .func (.func 37) #[] #[]] w fun x w' => (∃ n : Int, x = .returned (.int .i64 n) ∧ Hid (decide (0 ≤ n) = emptyF L)) ∧ Below w.heap.size w w' := by
  have hlen := hp.len
  have HP := Lib.hid hp
  clear hp
  go_enter Tryd.func50, Tryd.ntmps50
  go_wp2_with fail
  go_loopw [8] (fun v wr => ∃ k : Nat, k ≤ L.length ∧ v = .int .i64 k ∧ Hid (∀ j, j < k → someB (elAt L j) = true) ∧ Hid (Below w.heap.size w wr)) (fun v _ => (L.length - RowKit.intOf v).toNat)
  case atStart => exact ⟨0, by omega, rfl, Lib.hid (fun j hj => by omega), Lib.hid (Below.refl _ _)⟩
  case round =>
    obtain ⟨k, hk, rfl, HJ, HB⟩ := hrel
    by_cases hlt : k < L.length
    · obtain ⟨eb, off, hA, _, c1⟩ := (HP.out.below HB.out).at hlt
      subst hA
      have i1 : (k : Int) < (L.length : Int) := by omega
      obtain ⟨q, hq⟩ : ∃ q, someB (elAt L k) = q := ⟨_, rfl⟩
      have HQ := Lib.hid hq
      have hsm := HP.out.small _ (elAt_mem hlt)
      have hok := HP.out.ok _ (elAt_mem hlt)
      have HC : Hid (∀ W, Calls Tryd.prog 37 #[elV (elAt L k)] W fun x w' => x = .returned (.bool (!q)) ∧ Below W.heap.size W w') := Lib.hid (fun W => by rw [← HQ.out]; exact notSome_any _ hsm hok W)
      clear hq hsm hok
      generalize elV (elAt L k) = v at *
      go_wp2_with fail
      refine (HC.out _).mono ?_
      rintro e1 w2 ⟨rfl, b2⟩
      have HB2 := Lib.hid (HB.out.trans (b2.mono HB.out.size))
      clear b2
      cases q with
      | true =>
        have HJ2 := upto_on HJ HQ.out
        go_wp2_with fail
        go_roundw
        case measure => simp [RowKit.intOf]; omega
        case rel => exact ⟨k + 1, by omega, by go_num, HJ2, HB2⟩
      | false =>
        have HS := Lib.hid (emptyF_hit hlt HQ.out)
        go_wp2_with fail
        go_ret
        exact ⟨⟨k, rfl, Lib.hid (by rw [HS.out]; exact decide_eq_true (by omega))⟩, HB2.out⟩
    · obtain rfl : k = L.length := by omega
      have HS := Lib.hid (emptyF_none HJ.out)
      clear hlt hk
      go_wp2_with fail
      go_ret
      exact ⟨⟨-1, rfl, Lib.hid (by rw [HS.out]; rfl)⟩, HB.out⟩

theorem Empty_any (b : Nat) (txt : ByteArray) (L : List El) (A : Option Addr) (cap : Nat) (w : World) (hp : IsPat w w.heap.size b txt L A cap) :
    Calls Tryd.prog 17 #[.pointer (some ⟨b, 0, none⟩)] w fun x w' => x = .returned (.bool (emptyF L)) ∧ Below w.heap.size w w' := by
  have c1 := hp.els
  have H36 : Calls Tryd.prog 36 #[.slice A L.length cap, .func (.func 37) #[] #[]] w fun x w' => x = .returned (.bool (emptyF L)) ∧ Below w.heap.size w w' := by
    have HP := Lib.hid hp
    clear hp c1
    go_enter Tryd.func36, Tryd.ntmps36
    go_wp2_with fail
    refine (elIndex_any b txt L A cap w HP.out).mono ?_
    rintro e1 w2 ⟨⟨n, rfl, hn⟩, b2⟩
    go_wp2_with fail
    go_ret
    exact ⟨by rw [← hn.out]; rfl, b2⟩
  have HH := Lib.hid H36
  clear hp H36
  go_enter Tryd.func17, Tryd.ntmps17
  go_wp2_with fail
  refine HH.out.mono ?_
  rintro e1 w2 ⟨rfl, b2⟩
  go_wp2_with fail
  go_ret
  exact ⟨rfl, b2⟩

end Go.Proofs.YtgnmanmlnbidfaaDoor
