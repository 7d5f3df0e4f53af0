/- Route: Parse and the reference's Parse, by walks through their text. -/
import Derived.Test.YthkmjelibdgbcaaDoorNames
namespace Go.Proofs.YthkmjelibdgbcaaDoor
open Go.RowKit

/-- What Parse leaves. -/
def Made3 (w : World) (r : List ByteArray × Nat × Nat) (e : Ending) (w' : World) : Prop :=
  ∃ A' cap', e = .returned (.tuple #[.slice A' r.1.length cap', .int .i64 (r.2.1 : Nat), .int .i64 (r.2.2 : Nat)]) ∧ OwnS w' w.heap.size (.slice A' r.1.length cap') r.1 ∧ Below w.heap.size w w'

theorem made3_of {w : World} {r : List ByteArray × Nat × Nat} {e : Ending} {w' : World} {r' : List ByteArray × Nat × Nat} (h : Made3 w r' e w') (e' : r = r') : Made3 w r e w' := by rw [e']; exact h

theorem reads_names (w : World) (l : List ByteArray) : ReadsS (w.alloc (.cells (l.map Value.string).toArray 9)) (some ⟨w.heap.size, 0, none⟩) l := by
  refine .inr ⟨w.heap.size, 0, rfl, by simp, fun i hi => ?_⟩
  have h := heap_alloc_new w (.cells (l.map Value.string).toArray 9)
  simp only [World.cell?, h, Nat.zero_add]
  simp [hi, List.getD_eq_getElem?_getD]

theorem parseGo_at {l : List ByteArray} {k : Nat} (hk : k < l.length) (out : List ByteArray) (a : Nat) :
    parseGo out a (l.drop k) = if out.length = 50 then ([], a, 9) else if (siteL (chars (l.getD k ByteArray.empty))).2 ≠ 0 then ([], a + (siteL (chars (l.getD k ByteArray.empty))).1, (siteL (chars (l.getD k ByteArray.empty))).2) else parseGo (out ++ [l.getD k ByteArray.empty]) (a + (l.getD k ByteArray.empty).size + 1) (l.drop (k + 1)) := by
  rw [List.drop_eq_getElem_cons hk]
  simp only [parseGo, List.getD_eq_getElem?_getD, List.getElem?_eq_getElem hk, Option.getD_some]

theorem firstI_lt {p : Nat → Bool} {n i : Nat} (h : firstI p n = some i) : i < n := by
  unfold firstI at h
  have := List.mem_of_find?_eq_some h
  simpa using this

theorem siteL_le (l : List Nat) : (siteL l).1 ≤ 30 := by
  unfold siteL
  split
  · exact Nat.zero_le _
  · split
    · exact Nat.le_refl _
    · rename_i h
      split
      · rename_i i hi
        have := firstI_lt hi
        show i ≤ 30
        omega
      · split
        · rename_i i hi
          have := firstI_lt hi
          show i ≤ 30
          omega
        · exact Nat.zero_le _

theorem siteL_size {s : ByteArray} (h : (siteL (chars s)).2 = 0) : s.size ≤ 30 := by
  rcases Nat.lt_or_ge 30 s.size with h1 | h1
  · exfalso
    unfold siteL at h
    rw [if_neg (fun e => by rw [← chars_length, e] at h1; simp at h1), if_pos (by rw [chars_length]; exact h1)] at h
    cases h
  · exact h1

theorem Parse_any (s : ByteArray) (m : Int) (w : World) (hs : s.size ≤ 1000000) (hm : w.cell? ⟨0, 0, none⟩ = some (.int .i64 m)) :
    Calls Tryd.prog 10 #[.string s] w (Made3 w (parseF s)) := by
  by_cases h0 : s.size = 0
  · have E : Hid (parseF s = ([], 0, 0)) := Lib.hid (by rw [parseF, if_pos h0])
    obtain rfl : s = ByteArray.empty := ByteArray.ext (Array.eq_empty_of_size_eq_zero h0)
    clear h0
    rw [E.out]
    go_enter Tryd.func10, Tryd.ntmps10
    go_wp2_with fail
    go_ret3
    exact ⟨none, 0, rfl, OwnS.nil _ _, Below.refl _ _⟩
  · have hne := isEmpty_no h0
    have E : Hid (parseF s = parseGo [] 0 (names s)) := Lib.hid (by rw [parseF, if_neg h0])
    have HS := Tryd.strings_Split s bang m w (by omega) hm (by decide)
    have hnm : Lib.splitB bang 0 (Lib.countB s bang) s = names s := rfl
    rw [hnm, ← names_length s] at HS
    have HS := Lib.hid HS
    have HM := Lib.hid hm
    clear h0 hnm hm
    rw [E.out]
    clear E
    generalize names s = l at *
    go_enter Tryd.func10, Tryd.ntmps10
    go_wp2_with fail
    refine HS.out.mono ?_
    rintro e w1 ⟨rfl, rfl⟩
    have HR := Lib.hid (reads_names w l)
    have B1 : Below w.heap.size w (w.alloc (.cells (l.map Value.string).toArray 9)) := (Below.refl _ _).alloc (Nat.le_refl _) _
    generalize w.alloc (.cells (l.map Value.string).toArray 9) = w1 at *
    go_wp2_with fail
    go_loopw [5, 6, 16] (fun vo va vi wr => ∃ (k a : Nat) (out : List ByteArray), k ≤ l.length ∧ k ≤ 50 ∧ out.length = k ∧ a ≤ 31 * k ∧ vi = .int .i64 k ∧ va = .int .i64 a ∧ (∃ A' cap', vo = .slice A' out.length cap' ∧ Hid (OwnS wr w1.heap.size (.slice A' out.length cap') out)) ∧ Hid (parseGo [] 0 l = parseGo out a (l.drop k)) ∧ Below w1.heap.size w1 wr) (fun _ _ vi _ => (l.length - intOf vi).toNat)
    case atStart => exact ⟨0, 0, [], by omega, by omega, rfl, by omega, rfl, rfl, ⟨none, 0, rfl, Lib.hid (OwnS.nil _ _)⟩, Lib.hid rfl, Below.refl _ _⟩
    case round =>
      obtain ⟨k, a, out, hk, hk5, hol, ha, rfl, rfl, ⟨A', cap', rfl, HO⟩, HE, HB1⟩ := hrel
      have HB := Lib.hid (B1.trans (HB1.mono B1.size))
      have hb1s := Lib.hid B1.size
      by_cases hlt : k < l.length
      · obtain ⟨b1, o1, hA, hb1, hc1⟩ := (HR.out.below HB1).at hlt
        simp only [Option.some.injEq, Addr.mk.injEq] at hA
        obtain ⟨rfl, rfl, _⟩ := hA
        rw [Nat.zero_add] at hc1
        have hst := parseGo_at hlt out a
        by_cases h50 : out.length = 50
        · have d50 : ((out.length : Int) == 50) = true := by simp [h50]
          have EE : Hid (parseGo [] 0 l = ([], a, 9)) := Lib.hid (by rw [HE.out, hst, if_pos h50])
          clear hst h50 hol
          generalize l.getD k ByteArray.empty = x at *
          go_wp2_with fail
          go_ret3
          exact made3_of ⟨none, 0, rfl, OwnS.nil _ _, HB.out⟩ EE.out
        · have d50 : ((out.length : Int) == 50) = false := by simp; omega
          rw [if_neg h50] at hst
          have hpl := siteL_le (chars (l.getD k ByteArray.empty))
          by_cases he : (siteL (chars (l.getD k ByteArray.empty))).2 = 0
          · have b0 := nz_no he
            have hx30 := siteL_size he
            rw [if_neg (by simpa using he)] at hst
            have EE : Hid (parseGo [] 0 l = parseGo (out ++ [l.getD k ByteArray.empty]) (a + (l.getD k ByteArray.empty).size + 1) (l.drop (k + 1))) := Lib.hid (HE.out.trans hst)
            clear hst he
            have hol1 : (out ++ [l.getD k ByteArray.empty]).length = k + 1 := by simp [hol]
            have HOL := Lib.hid hol
            have HOL1 := Lib.hid hol1
            have hk49 : k < 50 := by omega
            have hosz : out.length ≤ 50 := by omega
            clear hol hol1 h50
            generalize l.getD k ByteArray.empty = x at *
            have hsz := HB1.size
            go_wp2_with fail
            refine (Site_any x _).mono ?_
            rintro e w2 ⟨rfl, rfl⟩
            generalize siteL (chars x) = st at *
            obtain ⟨o3, ho3⟩ : ∃ o3, Hid (out ++ [x] = o3) := ⟨_, Lib.hid rfl⟩
            go_wp2_with (at_builtin; refine wpList_append_str rfl _ _ 23 Tryd.underlying23 rfl w1.heap.size _ out rfl (HO.out.alloc _) (some ⟨wr.heap.size, 0, none⟩) 1 1 rfl [x] rfl (reads_one _ _) ?c2 ?c3 ?c4 o3 ?c5 ?_)
            case c2 => intro e; cases e
            case c3 => simp; omega
            case c4 => simp; omega
            case c5 => exact ho3.out
            intro A3 cap3 w3 HO3 HG3
            have HB3 := Lib.hid ((HB1.alloc hsz (.cells #[.string x] 9)).grown HG3 (by simp; omega) (fun j e => (HO.out.blk j e).1))
            have HO3 := Lib.hid HO3
            clear HG3
            have haz : a + x.size + 1 ≤ 31 * (k + 1) := by omega
            go_wp2_with fail
            go_roundw
            case measure => simp [intOf]; omega
            case rel =>
              refine ⟨k + 1, a + x.size + 1, o3, by omega, by omega, by rw [← ho3.out]; exact HOL1.out, haz, by simp, ?_, ⟨A3, cap3, rfl, HO3⟩, Lib.hid (by rw [← ho3.out]; exact EE.out), HB3.out⟩
              go_num
          · have b0 := nz_yes he
            rw [if_pos he] at hst
            have EE : Hid (parseGo [] 0 l = ([], a + (siteL (chars (l.getD k ByteArray.empty))).1, (siteL (chars (l.getD k ByteArray.empty))).2)) := Lib.hid (HE.out.trans hst)
            clear hst he h50
            have HOL := Lib.hid hol
            clear hol
            generalize l.getD k ByteArray.empty = x at *
            go_wp2_with fail
            refine (Site_any x _).mono ?_
            rintro e w2 ⟨rfl, rfl⟩
            generalize siteL (chars x) = st at *
            go_wp2_with fail
            go_ret3
            exact made3_of ⟨none, 0, rfl, OwnS.nil _ _, HB.out⟩ EE.out
      · obtain rfl : k = l.length := by omega
        have EE : Hid (parseGo [] 0 l = (out, 0, 0)) := Lib.hid (by rw [HE.out, List.drop_length]; rfl)
        have HOL := Lib.hid hol
        clear hk hlt hol
        go_wp2_with fail
        go_ret3
        exact made3_of ⟨A', cap', rfl, HO.out.mono hb1s.out, HB.out⟩ EE.out

end Go.Proofs.YthkmjelibdgbcaaDoor
