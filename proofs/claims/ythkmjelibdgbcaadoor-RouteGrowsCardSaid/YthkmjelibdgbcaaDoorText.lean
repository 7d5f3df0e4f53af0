/- Route: String and the reference's Text, by walks through their text. -/
import Derived.Test.YthkmjelibdgbcaaDoorCut
import Derived.Lib.Join
namespace Go.Proofs.YthkmjelibdgbcaaDoor
open Go.RowKit

def dl (l : List ByteArray) : List (List UInt8) := l.map (·.data.toList)
/-- A route's text. -/
def textF (l : List ByteArray) : ByteArray := ⟨(Lib.join (dl l) [33]).toArray⟩

theorem textF_size (l : List ByteArray) : (textF l).size = (Lib.join (dl l) [33]).length := by simp [textF, ByteArray.size]

theorem dl_take (l : List ByteArray) (k : Nat) : dl (l.take k) = (dl l).take k := by simp [dl]
theorem dl_get {l : List ByteArray} {k : Nat} (hk : k < l.length) : (dl l)[k]? = some (l.getD k ByteArray.empty).data.toList := by
  simp [dl, hk, List.getD_eq_getElem?_getD]

theorem textF_first {l : List ByteArray} (h : 0 < l.length) : textF (l.take 1) = l.getD 0 ByteArray.empty := by
  cases l with
  | nil => simp at h
  | cons a l =>
    apply ByteArray.ext
    simp [textF, dl, Lib.join_one]

theorem textF_next {l : List ByteArray} {k : Nat} (h0 : 0 < k) (hk : k < l.length) : textF (l.take (k + 1)) = (textF (l.take k) ++ (⟨#[33]⟩ : ByteArray)) ++ l.getD k ByteArray.empty := by
  cases l with
  | nil => simp at hk
  | cons a l =>
    obtain ⟨j, rfl⟩ : ∃ j, k = j + 1 := ⟨k - 1, by omega⟩
    have hg : (dl l)[j]? = some ((a :: l).getD (j + 1) ByteArray.empty).data.toList := dl_get (l := l) (by simpa using hk)
    apply ByteArray.ext
    apply Array.ext'
    simp only [textF, dl_take, ByteArray.data_append, Array.toList_append]
    have e1 : dl (a :: l) = a.data.toList :: dl l := rfl
    rw [e1, List.take_succ_cons, List.take_succ_cons, Lib.join_cons, Lib.join_cons, Lib.joinTail_take_succ _ _ _ _ hg]
    simp

theorem textF_take_le (l : List ByteArray) (k : Nat) : (textF (l.take k)).size ≤ (textF l).size := by
  rw [textF_size, textF_size, dl_take]
  cases hd : dl l with
  | nil => simp
  | cons a r =>
    cases k with
    | zero => simp [Lib.join_nil]
    | succ k =>
      rw [List.take_succ_cons, Lib.join_cons, Lib.join_cons, List.length_append, List.length_append]
      have := Lib.joinTail_take_le [33] r k
      omega

theorem String_any (A : Option Addr) (ca : Nat) (l : List ByteArray) (w : World) (hl : ReadsS w A l) (hn : l.length ≤ 1000000) (hc : l.length ≤ ca) (hb : (textF l).size ≤ 1000000) :
    Calls Tryd.prog 14 #[.slice A l.length ca] w fun e w' => e = .returned (.string (textF l)) ∧ Below w.heap.size w w' := by
  have HJ : Calls Tryd.prog 31 #[.slice A l.length ca, .string ⟨#[33]⟩] w fun e w' => e = .returned (.string (textF l)) ∧ Below w.heap.size w w' := by
    rcases hl with rfl | ⟨b, off, rfl, hbb, hcell⟩
    · refine (Tryd.strings_Join_none A ca ⟨#[33]⟩ w).mono ?_
      rintro e w' ⟨rfl, rfl⟩
      exact ⟨rfl, Below.refl _ _⟩
    · exact Tryd.strings_Join b off ca l ⟨#[33]⟩ w (fun j x hx => by
        have hj : j < l.length := by
          rcases Nat.lt_or_ge j l.length with h | h
          · exact h
          · rw [List.getElem?_eq_none h] at hx; cases hx
        rw [hcell j hj, List.getD_eq_getElem?_getD, hx]; rfl) hbb (by omega) hc (by rw [textF_size] at hb; exact Nat.le_trans hb (by omega))
  have HJ' := Lib.hid HJ
  clear HJ
  go_enter Tryd.func14, Tryd.ntmps14
  go_wp2_with fail
  refine HJ'.out.mono ?_
  rintro e w1 ⟨rfl, b1⟩
  go_wp2_with fail
  go_ret
  exact ⟨rfl, b1⟩

theorem Text_any (A : Option Addr) (ca : Nat) (l : List ByteArray) (w : World) (hl : ReadsS w A l) (hn : l.length ≤ 1000000) (hb : (textF l).size ≤ 1000000) :
    Calls Tryd.prog 18 #[.slice A l.length ca] w fun e w' => e = .returned (.string (textF l)) ∧ w = w' := by
  have HL := Lib.hid hl
  have HTB := Lib.hid (fun k => Nat.le_trans (textF_take_le l k) hb)
  clear hl
  go_enter Tryd.func18, Tryd.ntmps18
  go_wp2_with fail
  go_loopw [3, 4] (fun vo v wr => ∃ k : Nat, k ≤ l.length ∧ v = .int .i64 k ∧ vo = .string (textF (l.take k)) ∧ wr = w) (fun _ v _ => (l.length - intOf v).toNat)
  case atStart => exact ⟨0, by omega, rfl, rfl, rfl⟩
  case round =>
    obtain ⟨k, hk, rfl, rfl, rfl⟩ := hrel
    by_cases hlt : k < l.length
    · obtain ⟨b1, o1, hA, hb1, hc1⟩ := HL.out.at hlt
      subst hA
      have hs1 := HTB.out k
      have hs2 := HTB.out (k + 1)
      by_cases h0 : k = 0
      · have d0 : ¬ 0 < k := by omega
        have e : textF (l.take (k + 1)) = textF (l.take k) ++ l.getD k ByteArray.empty := by
          subst h0
          rw [textF_first hlt]
          apply ByteArray.ext
          simp [textF, dl, Lib.join_nil]
        have E := Lib.hid e
        have S : (textF (l.take k)).size + (l.getD k ByteArray.empty).size ≤ 1000000 := by rw [e, ByteArray.size_append] at hs2; exact hs2
        clear e hs2 h0
        generalize textF (l.take k) = t at *
        generalize l.getD k ByteArray.empty = x at *
        go_wp2_with fail
        go_roundw
        case rel => exact ⟨k + 1, by omega, by simp, by rw [E.out], trivial⟩
        case measure => simp [intOf]; omega
      · have d0 : 0 < k := by omega
        have e := textF_next (l := l) (k := k) (by omega) hlt
        have E := Lib.hid e
        have S : (textF (l.take k)).size + 1 + (l.getD k ByteArray.empty).size ≤ 1000000 := by
          rw [e, ByteArray.size_append, ByteArray.size_append] at hs2
          exact hs2
        clear e hs2 h0
        generalize textF (l.take k) = t at *
        generalize l.getD k ByteArray.empty = x at *
        go_wp2_with fail
        go_roundw
        case rel => exact ⟨k + 1, by omega, by simp, by rw [E.out], trivial⟩
        case measure => simp [intOf]; omega
    · obtain rfl : k = l.length := by omega
      clear hk hlt
      have E := Lib.hid (congrArg textF (List.take_length (l := l)))
      generalize textF (l.take l.length) = t at *
      go_wp2_with fail
      go_ret
      exact ⟨by rw [← E.out]; rfl, rfl⟩

end Go.Proofs.YthkmjelibdgbcaaDoor
