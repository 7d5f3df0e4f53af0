/- Route: more plain laws: valid routes and their texts; common ends. -/
import Derived.Test.YthkmjelibdgbcaaDoorPlain
namespace Go.Proofs.YthkmjelibdgbcaaDoor
open Go.RowKit

theorem OwnS.open_ {w : World} {base : Nat} {A : Option Addr} {n cap : Nat} {l : List ByteArray} (h : OwnS w base (.slice A n cap) l) : ReadsS w A l ∧ l.length ≤ cap ∧ (A = none → cap = 0) := by
  obtain ⟨A', c', e, R, hc, _, hn⟩ := h.reads
  cases e
  exact ⟨R, hc, hn⟩

theorem lens_le (l : List ByteArray) (h : ∀ x ∈ l, x.size ≤ 40) : (textF l).size ≤ 41 * l.length := by
  rw [textF_size]
  cases l with
  | nil => simp [dl, Lib.join_nil]
  | cons a l =>
    have e1 : dl (a :: l) = a.data.toList :: dl l := rfl
    rw [e1, Lib.join_length]
    have hs : ∀ l : List ByteArray, (∀ x ∈ l, x.size ≤ 40) → Lib.lens (dl l) ≤ 40 * l.length := by
      intro l
      induction l with
      | nil => intro _; simp [Lib.lens, dl]
      | cons b l ih =>
        intro h
        have h1 := h b (by simp)
        have h2 := ih (fun x hx => h x (by simp [hx]))
        simp only [Lib.lens, dl, List.map_cons, List.sum_cons, List.length_cons] at h2 ⊢
        have h3 : b.data.toList.length = b.size := by simp
        omega
    have h1 := hs (a :: l) h
    rw [e1] at h1
    have h2 : (dl l).length = l.length := by simp [dl]
    simp only [List.length_cons, List.length_nil] at h1 ⊢
    omega

theorem cutS_size (x : ByteArray) : (cutS x).size ≤ 40 := by
  unfold cutS
  rw [ByteArray.size_extract]
  omega

theorem cut_text (l : List ByteArray) : (textF (cutF l)).size ≤ 2460 := by
  have h := lens_le (cutF l) (fun x hx => by
    simp only [cutF, List.mem_map] at hx
    obtain ⟨y, _, rfl⟩ := hx
    exact cutS_size y)
  have := cutF_length l
  omega

theorem okB_bang : okB 33 = false := by decide

/-- A name without an error holds no '!', and some byte. -/
theorem site_ok {s : ByteArray} (h : (siteL (chars s)).2 = 0) : s.size ≠ 0 ∧ ∀ j, j < s.size → okB ((chars s).getD j 0) = true := by
  by_cases h0 : s.size = 0
  · rw [chars_nil h0] at h
    cases h
  · refine ⟨h0, ?_⟩
    rcases Nat.lt_or_ge 30 s.size with h1 | h1
    · exact absurd (siteL_size h) (by omega)
    · rw [site_of h0 (by omega)] at h
      intro j hj
      cases hf : firstI (fun i => !okB ((chars s).getD i 0)) s.size with
      | some i => rw [hf] at h; cases h
      | none =>
        unfold firstI at hf
        rw [List.find?_eq_none] at hf
        have := hf j (by simpa using hj)
        simpa using this

theorem site_nobang {s : ByteArray} (h : (siteL (chars s)).2 = 0) : ∀ j : Nat, s.data.toList[j]? ≠ some 33 := by
  intro j e
  have hl : s.data.toList.length = s.size := by simp
  have hj : j < s.size := by
    rcases Nat.lt_or_ge j s.size with h' | h'
    · exact h'
    · rw [List.getElem?_eq_none (by omega)] at e; cases e
  have := (site_ok h).2 j hj
  rw [(ch_iff s j).1 e, okB_bang] at this
  cases this

theorem names_text : ∀ (l : List ByteArray), l ≠ [] → (∀ x ∈ l, (siteL (chars x)).2 = 0) → names (textF l) = l := by
  intro l
  induction l with
  | nil => intro h; exact absurd rfl h
  | cons x l ih =>
    intro _ h
    have hx := h x (by simp)
    cases l with
    | nil => rw [textF_one, names_miss (site_nobang hx)]
    | cons y l =>
      have hl : x.data.toList.length = x.size := by simp
      rw [textF_cons (by simp)]
      have h33 : ((⟨(x.data.toList ++ 33 :: (textF (y :: l)).data.toList).toArray⟩ : ByteArray)).data.toList = x.data.toList ++ 33 :: (textF (y :: l)).data.toList := rfl
      rw [names_hit (i := x.size) (by
        rw [h33, List.getElem?_append_right (by omega), hl, Nat.sub_self]; rfl) (fun j hj => by
        rw [h33, List.getElem?_append_left (by omega)]; exact site_nobang hx j)]
      have e1 : (⟨(x.data.toList ++ 33 :: (textF (y :: l)).data.toList).toArray⟩ : ByteArray).extract 0 x.size = x := by
        apply bytes_eq
        rw [Lib.extract_data, h33, List.drop_zero, Nat.sub_zero, ← hl, List.take_left]
      have e2 : (⟨(x.data.toList ++ 33 :: (textF (y :: l)).data.toList).toArray⟩ : ByteArray).extract (x.size + 1) (⟨(x.data.toList ++ 33 :: (textF (y :: l)).data.toList).toArray⟩ : ByteArray).size = textF (y :: l) := by
        apply bytes_eq
        rw [Lib.extract_data, h33]
        have e3 : (x.data.toList ++ 33 :: (textF (y :: l)).data.toList).drop (x.size + 1) = (textF (y :: l)).data.toList := by
          rw [show x.size + 1 = x.data.toList.length + 1 from by rw [hl], List.drop_append]
          simp
        rw [e3, List.take_of_length_le]
        simp only [ByteArray.size, List.size_toArray, List.length_append, List.length_cons]
        simp
        omega
      rw [e1, e2, ih (by simp) (fun z hz => h z (by simp [hz]))]

theorem errsF_zero : ∀ {l : List ByteArray}, errsF l = 0 → ∀ x ∈ l, (siteL (chars x)).2 = 0 := by
  intro l
  induction l with
  | nil => intro _ x hx; simp at hx
  | cons a l ih =>
    intro h x hx
    by_cases h0 : (siteL (chars a)).2 = 0
    · have h' : errsF l = 0 := by
        rw [← h]; simp [errsF, h0]
      rcases List.mem_cons.1 hx with rfl | hx
      · exact h0
      · exact ih h' x hx
    · exfalso
      have : errsF (a :: l) = (siteL (chars a)).2 := by simp [errsF, h0]
      omega

theorem check_zero {l : List ByteArray} (h : checkF l = 0) : l.length ≤ 50 ∧ ∀ x ∈ l, (siteL (chars x)).2 = 0 := by
  unfold checkF at h
  split at h
  · cases h
  · exact ⟨by omega, errsF_zero h⟩

theorem parseGo_all : ∀ (l out : List ByteArray) (a : Nat), out.length + l.length ≤ 50 → (∀ x ∈ l, (siteL (chars x)).2 = 0) → parseGo out a l = (out ++ l, 0, 0) := by
  intro l
  induction l with
  | nil => intro out a _ _; simp [parseGo]
  | cons x l ih =>
    intro out a hl h
    simp only [List.length_cons] at hl
    rw [parseGo_cons, if_neg (by omega), if_neg (by simpa using h x (by simp)), ih _ _ (by simp; omega) (fun y hy => h y (by simp [hy]))]
    simp

/-- A valid route's text is parsed to the route. -/
theorem parse_valid {l : List ByteArray} (h : checkF l = 0) : parseF (textF l) = (l, 0, 0) := by
  obtain ⟨h1, h2⟩ := check_zero h
  cases l with
  | nil => rfl
  | cons x l =>
    have hx := (site_ok (h2 x (by simp))).1
    have hs : (textF (x :: l)).size ≠ 0 := by
      intro e
      have := textF_take_le (x :: l) 1
      rw [textF_first (by simp)] at this
      have e2 : ((x :: l).getD 0 ByteArray.empty) = x := rfl
      rw [e2] at this
      omega
    rw [parseF, if_neg hs, names_text _ (by simp) h2, parseGo_all _ _ _ (by simpa using h1) h2]
    simp

end Go.Proofs.YthkmjelibdgbcaaDoor
