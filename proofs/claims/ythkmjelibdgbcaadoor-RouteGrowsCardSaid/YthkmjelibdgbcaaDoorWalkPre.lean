/- Route: the law RoutePrepends, by a walk through its text. -/
import Derived.Test.YthkmjelibdgbcaaDoorWalkShr
import Derived.Laws.OwnMore
namespace Go.Proofs.YthkmjelibdgbcaaDoor
open Go.RowKit

theorem append_2223 (ty : TypeId) (b : Option Addr) (n c : Nat) (y : Value) (w : World) : (Builtin.append_ #[22, 23] ty #[.slice b n c, y]).run Tryd.prog w = (Builtin.append_ #[22, 22] ty #[.slice b n c, y]).run Tryd.prog w := by
  simp [Builtin.append_, run_underlying Tryd.underlying22, run_underlying Tryd.underlying23]

/-- 'append([]string{}, r...)', r a route: a new list that reads as r. -/
theorem wpList_copy {w : World} {ops : Array Oper} {rest : List Oper} {o : Oper} {a : Act} {Q : Exit → Act → World → Prop} (hgd : o.guard = none) (s x : Operand)
    (ho : o.op = .call { callee := .builtin .append, args := #[s, x], argTypes := #[22, 23] }) (base : Nat)
    (bb : Option Addr) (nn cc : Nat) (hs : a.eval s = .slice bb nn cc) (hown : OwnS w base (.slice bb nn cc) []) (A : Option Addr) (m cap : Nat) (hx : a.eval x = .slice A m cap) (l2 : List ByteArray) (hm : l2.length = m) (hr : ReadsS w A l2) (hnil : A = none → cap = 0)
    (hlen : l2.length ≤ 8000000) (hbase : base ≤ w.heap.size)
    (h : ∀ A' cap' w', OwnS w' base (.slice A' l2.length cap') l2 → w.grownBy w' (Value.slice bb nn cc).ownBlock → wpList Tryd.prog ops Q rest (a.put o.dst (.slice A' l2.length cap')) w') : wpList Tryd.prog ops Q (o :: rest) a w := by
  have hrun : ∀ K, (∀ A' cap' w', OwnS w' base (.slice A' l2.length cap') l2 → w.grownBy w' (Value.slice bb nn cc).ownBlock → K (a.put o.dst (.slice A' l2.length cap')) w') →
      ({ o with op := .call { callee := .builtin .append, args := #[s, x], argTypes := #[22, 22] } } : Oper).wp Tryd.prog a w K Q := fun K hK =>
    wp_append_str s x 22 Tryd.underlying22 rfl base (.slice bb nn cc) [] hs hown A m cap hx l2 hm hr hnil (by simpa using hlen) hbase l2 rfl hK
  refine wpList_plain hgd fun K hK => ?_
  have h1 := hrun K (fun A' cap' w' h2 h3 => hK _ _ (h A' cap' w' h2 h3))
  unfold Oper.wp execOp at h1 ⊢
  simp only [ho, resolve, invoke, builtin, Sem.run_bind, Sem.run_pure, Result.andThen_ok, List.map_toArray, List.map_cons, List.map_nil, hs, append_2223] at h1 ⊢
  exact h1

/-- A slice that lies below block B reads as it did, where nothing below B has turned. -/
theorem ReadsS.low {w w' : World} {A : Option Addr} {l : List ByteArray} {B : Nat} (h : ReadsS w A l) (hb : Below B w w') (hB : w.heap.size ≤ B) : ReadsS w' A l :=
  h.below (hb.mono hB)

set_option maxHeartbeats 2000000 in
theorem prepends_walk (A : Option Addr) (ca : Nat) (l : List ByteArray) (site : ByteArray) (m : Int) (w : World) (hm : w.cell? ⟨0, 0, none⟩ = some (.int .i64 m)) (hr : ReadsS w A l) :
    Calls Tryd.prog 5 #[.slice A l.length ca, .string site] w fun e w' => e = .returned (.bool true) ∧ Below w.heap.size w w' := by
  have HM := Lib.hid hm
  have h0 := Lib.hid (cell_lt hm)
  have HR := Lib.hid hr
  obtain ⟨n1, hn1⟩ : ∃ n : Nat, min (site.size : Int) 40 = (n : Int) := ⟨min site.size 40, by omega⟩
  have hn1l : n1 ≤ site.size := by omega
  clear hm hr
  go_enter Tryd.func5, Tryd.ntmps5
  go_wp2_with fail
  refine (cut_any A ca l w HR.out).mono ?_
  rintro e w1 ⟨⟨A1, cap1, rfl, O1⟩, b1⟩
  have hlen := cutF_length l
  generalize cutF l = r at *
  obtain ⟨R1, hc1, hnil1⟩ := O1.open_
  have B1 := Lib.hid b1
  have RR1 := Lib.hid R1
  have HN1 := Lib.hid hnil1
  clear O1 b1 R1 hc1 hnil1
  have bz : Below w1.heap.size w1 (w1.alloc (.cells #[] 9)) := (Below.refl _ _).alloc (Nat.le_refl _) _
  have o0 := own_none w1
  go_wp2_with (at_builtin; refine wpList_copy rfl _ _ rfl w1.heap.size _ _ _ rfl o0 A1 r.length cap1 rfl r rfl ?c1 ?c2 ?c3 ?c4 ?_)
  case c1 => exact RR1.out.below bz
  case c2 => exact HN1.out
  case c3 => omega
  case c4 => simp
  intro A2 cap2 w2 O2 G2
  have b2 := bz.grown G2 (by simp) (fun j e => (o0.blk j e).1)
  have B2 := Lib.hid (B1.out.trans (b2.mono B1.out.size))
  have RR2 := Lib.hid (RR1.out.below b2)
  have RW2 := Lib.hid O2.open_.1
  clear O2 G2 b2 bz o0
  go_wp2_with fail
  refine (Prepend_any A1 cap1 r (site.extract 0 n1) w2 RR2.out (by omega) HN1.out).mono ?_
  rintro e w3 ⟨A3, cap3, rfl, O3, b3⟩
  have L1 := prep_len r (site.extract 0 n1)
  have RR3 := Lib.hid (RR2.out.below b3)
  go_wp2_with fail
  refine (RPrepend_any A1 cap1 r (site.extract 0 n1) w3 RR3.out (by omega) HN1.out).mono ?_
  rintro e w4 ⟨A4, cap4, rfl, O4, b4⟩
  generalize site.extract 0 n1 = x at *
  generalize prepF r x = p at *
  obtain ⟨la, ea⟩ := p
  simp only at O3 O4 L1
  have b24 := b3.trans (b4.mono b3.size)
  have RP4 := Lib.hid (O3.open_.1.below b4)
  have RQ4 := Lib.hid O4.open_.1
  have OP4 := Lib.hid (O3.below b4)
  have BB4 := Lib.hid b24
  clear O3 O4 b3 b4 b24 RR3 hn1 hn1l
  have hne : ((ea : Int) != (ea : Int)) = false := by simp
  go_wp2_with fail
  refine (Same_refl A3 A4 cap3 cap4 la w4 RP4.out RQ4.out (by omega)).mono ?_
  rintro e w5 ⟨rfl, b5⟩
  have OP5 := Lib.hid (OP4.out.below b5)
  have BB5 := Lib.hid (BB4.out.trans (b5.mono BB4.out.size))
  clear b5 RP4 RQ4 OP4 BB4
  go_wp2_with fail
  go_loopw [11] (fun v wr => ∃ k : Nat, k ≤ la.length ∧ v = .int .i64 k ∧ (∃ lc : List ByteArray, Hid (wr.ownsRow w2.heap.size 9 1 (.slice A3 la.length cap3) la.length (strs lc))) ∧ Below w2.heap.size w2 wr) (fun v _ => (la.length - intOf v).toNat)
  case atStart => exact ⟨0, by omega, rfl, ⟨la, OP5⟩, BB5.out⟩
  case round =>
    obtain ⟨k, hk, rfl, ⟨lc, HO⟩, HB⟩ := hrel
    by_cases hlt : k < la.length
    · obtain ⟨g, hA⟩ : ∃ g, A3 = some ⟨g, 0, none⟩ := by
        rcases HO.out.2 with ⟨_, h⟩ | ⟨g, c, cur, hv, _⟩
        · omega
        · cases hv; exact ⟨g, rfl⟩
      subst hA
      have hx := HO.out.cellAt k (by omega)
      have hlc : (strs lc).length = la.length * 1 := HO.out.1
      rw [List.getElem?_eq_getElem (by omega)] at hx
      obtain ⟨y, hy⟩ : ∃ y, (strs lc)[k]'(by omega) = .string y := ⟨lc[k]'(by rw [strs_length] at hlc; omega), by simp [strs]⟩
      rw [hy] at hx
      have hfz := HO.out.frozenAt k
      have hgb := HO.out.lt g rfl
      have hst := HO.out.stored k (.string ⟨#[99, 104, 97, 110, 103, 101, 100]⟩)
      have hset : (strs lc).set k (.string ⟨#[99, 104, 97, 110, 103, 101, 100]⟩) = strs (lc.set k ⟨#[99, 104, 97, 110, 103, 101, 100]⟩) := by simp [strs, List.map_set]
      rw [hset] at hst
      have HST := Lib.hid hst.1
      have HGB := Lib.hid hgb.1
      have i1 : (k : Int) < (la.length : Int) := by omega
      clear hy hst hset hlc hgb
      go_wp2_with fail
      go_roundw
      case rel => exact ⟨k + 1, by omega, by simp, ⟨_, HST⟩, HB.setCell (p := ⟨g, k, none⟩) HGB.out _⟩
      case measure => simp [intOf]; omega
    · obtain rfl : k = la.length := by omega
      clear hk hlt
      have BW := Lib.hid (B2.out.trans (HB.mono B2.out.size))
      have RR6 := Lib.hid (RR2.out.below HB)
      have RW6 := Lib.hid (RW2.out.below HB)
      clear HB HO
      go_wp2_with fail
      refine (known_any m wr ((BW.out.cell (p := ⟨0, 0, none⟩) h0.out).trans HM.out)).mono ?_
      rintro e w6 ⟨rfl, b6⟩
      have B6 := Lib.hid (BW.out.trans (b6.mono BW.out.size))
      have RR7 := Lib.hid (RR6.out.below b6)
      have RW7 := Lib.hid (RW6.out.below b6)
      clear b6
      go_wp2_with fail
      refine (Same_refl A1 A2 cap1 cap2 r w6 RR7.out RW7.out (by omega)).mono ?_
      rintro e w7 ⟨rfl, b7⟩
      have B7 := Lib.hid (B6.out.trans (b7.mono B6.out.size))
      clear b7
      go_wp2_with fail
      go_ret
      exact ⟨rfl, B7.out⟩

end Go.Proofs.YthkmjelibdgbcaaDoor
