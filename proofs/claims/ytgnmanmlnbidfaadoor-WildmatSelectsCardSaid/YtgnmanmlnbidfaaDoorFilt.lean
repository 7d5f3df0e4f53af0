/- Wildmat: Filter, by a walk through its text. -/
import Derived.Test.YtgnmanmlnbidfaaDoorSmall
import Derived.Laws.AppendOwnNone
import Derived.Maps.AppendAt
namespace Go.Proofs.YtgnmanmlnbidfaaDoor
open Go.RowKit

theorem info9 : (Tryd.prog.info? 9).map (fun i => (i.zero, i.size, i.bytes)) = some (some (.string ⟨#[]⟩), 1, 16) := by kernel_rfl

/-- The names that are kept. -/
def filtF (f : ByteArray → Nat) (l : List ByteArray) : List ByteArray := l.filter fun s => decide (f s = 1)

theorem filt_next (f : ByteArray → Nat) (l : List ByteArray) {k : Nat} (hk : k < l.length) : filtF f (l.take (k + 1)) = if f (l.getD k ByteArray.empty) = 1 then filtF f (l.take k) ++ [l.getD k ByteArray.empty] else filtF f (l.take k) := by
  rw [List.take_succ_eq_append_getElem hk, filtF, List.filter_append, List.getD_eq_getElem?_getD, List.getElem?_eq_getElem hk, Option.getD_some]
  split
  · rename_i h; rw [List.filter_cons_of_pos (by simp [h])]; rfl
  · rename_i h; rw [List.filter_cons_of_neg (by simp [h])]; simp [filtF]

theorem filt_le (f : ByteArray → Nat) (l : List ByteArray) : (filtF f l).length ≤ l.length := List.length_filter_le _ _

/-- What a slice of names of the call's own reads as. -/
theorem own_reads {w : World} {base n cap : Nat} {A : Option Addr} {l : List ByteArray} (h : w.ownsRow base 9 1 (.slice A n cap) l.length (l.map Value.string)) : ReadsV w w.heap.size A (l.map Value.string) := by
  rcases h.2 with ⟨_, h0⟩ | ⟨g, cap, cur, hv, hg, hh, _, _, _, _⟩
  · exact .inl (by rw [List.eq_nil_of_length_eq_zero h0]; rfl)
  · cases hv
    refine .inr ⟨g, 0, rfl, lt_of_block hh, fun i hi => ?_⟩
    rw [Nat.zero_add]
    have h1 := h.cells rfl i ((l.map Value.string).getD i undef) (by rw [List.getD_eq_getElem?_getD, List.getElem?_eq_getElem hi]; rfl)
    have hadd : ∀ j, (⟨g, 0, none⟩ : Addr).add j = ⟨g, 0 + j, none⟩ := fun j => by unfold Addr.add; split <;> simp_all
    rw [hadd, Nat.zero_add] at h1
    exact h1

set_option maxRecDepth 100000 in
set_option maxHeartbeats 4000000 in
theorem Filter_any (l : Value) (f : ByteArray → Nat) (names : List ByteArray) (A : Option Addr) (cap : Nat) (w : World) (hV : VerdOf l f w) (hR : ReadsV w w.heap.size A (names.map Value.string)) (hn : names.length ≤ 100000) (hsz : ∀ s ∈ names, s.size ≤ 100) :
    Calls Tryd.prog 26 #[l, .slice A names.length cap] w fun e w' => (∃ A' cap', e = .returned (.slice A' (filtF f names).length cap') ∧ ReadsV w' w'.heap.size A' ((filtF f names).map Value.string)) ∧ Below w.heap.size w w' := by
  have HV := Lib.hid hV
  have HR := Lib.hid hR
  have HZ := Lib.hid hsz
  obtain ⟨i0, hi, hz0, hz1, hz2⟩ := info_parts info9
  have Hi := Lib.hid hi
  have Z0 := Lib.hid hz0
  have Z1 := Lib.hid hz1
  have Z2 := Lib.hid hz2
  clear hV hR hsz hi hz0 hz1 hz2
  go_enter Tryd.func26, Tryd.ntmps26
  go_wp2_with fail
  go_loopw [5, 10] (fun vo vk wr => ∃ (k : Nat) (A' : Option Addr) (cap' : Nat) (acc : List ByteArray), k ≤ names.length ∧ acc.length ≤ k ∧ vo = .slice A' acc.length cap' ∧ vk = .int .i64 k ∧ Hid (filtF f (names.take k) = acc) ∧ Hid (wr.ownsRow w.heap.size 9 1 (.slice A' acc.length cap') acc.length (acc.map Value.string)) ∧ Hid (Below w.heap.size w wr)) (fun _ vk _ => (names.length - intOf vk).toNat)
  case atStart => exact ⟨0, none, 0, [], by omega, by simp, rfl, rfl, Lib.hid rfl, Lib.hid (World.ownsRow_nil _ _ _ _), Lib.hid (Below.refl _ _)⟩
  case round =>
    obtain ⟨k, A', cap', acc, hk, hak, rfl, rfl, HE, HO, HB⟩ := hrel
    by_cases hlt : k < names.length
    · obtain ⟨bb, off, hA, hbb, c0⟩ := (HR.out.below HB.out).at (k := k) (by rw [List.length_map]; exact hlt)
      subst hA
      have hget : (names.map Value.string).getD k undef = .string (names.getD k ByteArray.empty) := by
        rw [List.getD_eq_getElem?_getD, List.getD_eq_getElem?_getD, List.getElem?_map, List.getElem?_eq_getElem hlt]; rfl
      rw [hget] at c0
      have hs100 := HZ.out (names.getD k ByteArray.empty) (by rw [List.getD_eq_getElem?_getD, List.getElem?_eq_getElem hlt]; exact List.getElem_mem hlt)
      have hst := filt_next f names hlt
      have HC := HV.out (names.getD k ByteArray.empty) wr hs100 HB.out
      have hkl : (k : Int) < (names.length : Int) := by omega
      generalize names.getD k ByteArray.empty = x at *
      clear hget
      obtain ⟨v, hv⟩ : ∃ v, f x = v := ⟨_, rfl⟩
      rw [hv, HE.out] at hst
      rw [hv] at HC
      have HST := Lib.hid hst
      have HCC := Lib.hid HC
      clear hst HC hv
      by_cases h1 : v = 1
      · have t1 : ((v : Int) == 1) = true := by rw [h1]; rfl
        have HN : Hid (filtF f (names.take (k + 1)) = acc ++ [x]) := Lib.hid (by rw [HST.out, if_pos h1])
        clear h1
        go_wp2_with fail
        refine HCC.out.mono ?_
        rintro e w2 ⟨rfl, b2⟩
        have HB2 := Lib.hid (HB.out.trans (b2.mono HB.out.size))
        have HO2 := Lib.hid (HO.out.kept (grown_of_below b2 none) (by cases (Value.slice A' acc.length cap').ownBlock <;> simp))
        have OW : Hid ((w2.alloc (.cells #[.string x] 9)).ownsRow w.heap.size 9 1 (.slice A' acc.length cap') acc.length (acc.map Value.string)) := Lib.hid (HO2.out.alloc _)
        have B3 := Lib.hid (HB2.out.alloc HB2.out.size (.cells #[.string x] 9))
        clear b2
        go_wp2_with (at_builtin; refine wpList_append_own_at _ rfl _ _ 50 rfl w.heap.size 9 i0 (.string ⟨#[]⟩) 1 16 Tryd.underlying50 Hi.out Z0.out Z1.out Z2.out rfl (by decide) _ acc.length (acc.map Value.string) rfl OW.out ⟨w2.heap.size, 0, none⟩ 1 1 [.string x] rfl rfl ?c1 ?c2 ?c3 ?c4 ?c5 ?_)
        case c1 => exact cell_one_new _ _ _
        case c2 => intro u hu; simp at hu; subst hu; rfl
        case c3 => unfold maxLen; omega
        case c4 => omega
        case c5 => exact B3.out.size
        intro v1 w3 hown1 hg1 _ hat1
        have hform : ∃ g c3, v1 = .slice (some ⟨g, 0, none⟩) (acc.length + 1) c3 := by
          rcases hown1.2 with ⟨_, h⟩ | ⟨g, c3, cur, hv, _⟩
          · omega
          · exact ⟨g, c3, hv⟩
        obtain ⟨g, c3, rfl⟩ := hform
        have hB4 := Lib.hid (B3.out.grown hg1 B3.out.size (fun j e => (OW.out.lt j e).1))
        have hO4 := Lib.hid hown1
        clear hown1 hg1 hat1
        go_wp2_with fail
        go_roundw
        case measure => simp [intOf]; omega
        case rel => exact ⟨k + 1, some ⟨g, 0, none⟩, c3, acc ++ [x], by omega, by simp; omega, by simp, by go_num, HN, by rw [List.length_append, List.map_append]; exact hO4, hB4⟩
      · have t1 : ((v : Int) == 1) = false := by simp only [beq_eq_false_iff_ne, ne_eq]; omega
        have HN : Hid (filtF f (names.take (k + 1)) = acc) := Lib.hid (by rw [HST.out, if_neg h1])
        clear h1
        go_wp2_with fail
        refine HCC.out.mono ?_
        rintro e w2 ⟨rfl, b2⟩
        have HB2 := Lib.hid (HB.out.trans (b2.mono HB.out.size))
        have HO2 := Lib.hid (HO.out.kept (grown_of_below b2 none) (by cases (Value.slice A' acc.length cap').ownBlock <;> simp))
        clear b2
        go_wp2_with fail
        go_roundw
        case measure => simp [intOf]; omega
        case rel => exact ⟨k + 1, A', cap', acc, by omega, by omega, rfl, by go_num, HN, HO2, HB2⟩
    · obtain rfl : k = names.length := by omega
      have HN : Hid (filtF f names = acc) := Lib.hid (by have h := HE.out; rw [List.take_length] at h; exact h)
      clear hlt hk
      go_wp2_with fail
      go_ret
      exact ⟨⟨A', cap', by rw [HN.out]; rfl, by rw [HN.out]; exact own_reads HO.out⟩, HB.out⟩

end Go.Proofs.YtgnmanmlnbidfaaDoor
