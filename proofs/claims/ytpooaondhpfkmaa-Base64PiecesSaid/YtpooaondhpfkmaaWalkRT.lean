/- Base64: the laws on round trips, by a walk through their text. -/
import Derived.Test.YtpooaondhpfkmaaApi
namespace Go.Proofs.Ytpooaondhpfkmaa
open Go.RowKit Go.Maps

/-- WHAT THE WALK IS TOLD OF A SLICE OF INTEGERS THAT CAME IN (the shell's own words). -/
def IsRow (k : IntKind) (w : World) (a : Option Addr) (len cap : Nat) (zs : List Int) : Prop :=
  (a = none ∧ len = 0 ∧ cap = 0 ∧ zs = []) ∨
  ∃ x, a = some x ∧ len ≤ cap ∧ cap ≤ maxLen ∧ zs.length = cap ∧ (∀ i, i < zs.length → w.cell? (x.add i) = some (.int k (zs.getD i 0))) ∧ ∀ n ∈ zs, (Lit.int k n).wf = true

theorem isRow_reads {w : World} {a : Option Addr} {len cap : Nat} {zs : List Int} (h : IsRow .u8 w a len cap zs) : ∃ l : List Nat, l.length = len ∧ (∀ x ∈ l, x < 256) ∧ Reads w a l ∧ len ≤ cap ∧ cap ≤ maxLen := by
  rcases h with ⟨rfl, rfl, rfl, rfl⟩ | ⟨x, rfl, h1, h2, h3, h4, h5⟩
  · exact ⟨[], rfl, by simp, .inl rfl, by omega, by unfold maxLen; omega⟩
  · have hb : ∀ n ∈ zs, 0 ≤ n ∧ n < 256 := by
      intro n hn
      have := h5 n hn
      simp [Lit.wf, IntKind.min, IntKind.max, IntKind.signed, IntKind.bits] at this
      omega
    refine ⟨(zs.take len).map Int.toNat, by simp; omega, ?_, ?_, h1, h2⟩
    · intro n hn
      obtain ⟨m, hm, rfl⟩ := List.mem_map.1 hn
      have := hb m (List.mem_of_mem_take hm)
      omega
    · by_cases h0 : len = 0
      · subst h0; exact .inl (by simp)
      · have hc0 := h4 0 (by omega)
        have hspot := World.cell?_spot hc0
        have hx : x.spot = none := by
          unfold Addr.add at hspot
          split at hspot <;> simp_all
        obtain ⟨b, off, spot⟩ := x
        simp only at hx
        subst hx
        refine .inr ⟨b, off, rfl, ?_, ?_⟩
        · have hc1 : w.cell? ⟨b, off + 0, none⟩ = some (.int .u8 (zs.getD 0 0)) := by simpa [Addr.add] using hc0
          exact block_lt_of_cell hc1
        · intro i hi
          simp only [List.length_map, List.length_take] at hi
          have hplain : (⟨b, off, none⟩ : Addr).add i = ⟨b, off + i, none⟩ := by unfold Addr.add; split <;> simp_all
          have hc1 := h4 i (by omega)
          rw [hplain] at hc1
          rw [hc1]
          have hz : i < zs.length := by omega
          have hm := hb zs[i] (List.getElem_mem hz)
          have e : ((zs.take len).map Int.toNat).getD i 0 = zs[i].toNat := by
            rw [List.getD_eq_getElem?_getD, List.getElem?_map, List.getElem?_take_of_lt (by omega), List.getElem?_eq_getElem hz]; rfl
          rw [e, List.getD_eq_getElem?_getD, List.getElem?_eq_getElem hz]
          simp only [Option.getD_some]
          congr 2
          omega

theorem isRow_nil {k : IntKind} {w : World} {a : Option Addr} {len cap : Nat} {zs : List Int} (h : IsRow k w a len cap zs) : a = none → cap = 0 := by
  rcases h with ⟨_, _, h, _⟩ | ⟨x, h, _⟩
  · exact fun _ => h
  · intro e; rw [e] at h; cases h

theorem chars_strOf (l : List Nat) (h : ∀ x ∈ l, x < 256) : chars (strOf l) = l := by
  unfold chars strOf
  simp only [List.map_map]
  conv => rhs; rw [← List.map_id l]
  refine List.map_congr_left fun x hx => ?_
  simp only [Function.comp, UInt8.toNat_ofNat', id]
  exact Nat.mod_eq_of_lt (h x hx)

theorem strOf_size (l : List Nat) : (strOf l).size = l.length := by simp [strOf, ByteArray.size]

theorem strOf_chars (s : ByteArray) : strOf (chars s) = s := by
  unfold strOf chars
  rw [List.map_map]
  have : (UInt8.ofNat ∘ UInt8.toNat) = id := by funext x; simp
  rw [this]
  simp

set_option maxHeartbeats 1000000 in
theorem roundTrip_walk (A : Option Addr) (cap : Nat) (l : List Nat) (w : World) (hr : Reads w A l) (hl : ∀ x ∈ l, x < 256) :
    Calls Try.prog 6 #[.slice A l.length cap] w fun e w' => e = .returned (.bool true) ∧ Below w.heap.size w w' := by
  have HR := Lib.hid hr
  have HL := Lib.hid hl
  clear hr hl
  by_cases h : l.length ≤ 4000
  · have hd : decide ((4000 : Int) < (l.length : Int)) = false := decide_eq_false (by omega)
    have HD := Lib.hid (decodeL_encL l HL.out)
    have HC := Lib.hid (chars_strOf (encL l) (encL_lt l))
    have hlen4 : (encL l).length = (l.length + 2) / 3 * 4 := by rw [encL_encG l HL.out]; exact encG_length l
    have hsz : (strOf (encL l)).size = (l.length + 2) / 3 * 4 := by rw [strOf_size, hlen4]
    have hrem : (((strOf (encL l)).size : Nat) : Int) % 4 == 0 := by rw [hsz]; simp
    have hsz2 : (strOf (encL l)).size ≤ 174764 := by omega
    have HSZ := Lib.hid hsz
    clear hlen4 hsz
    go_enter Try.func6, Try.ntmps6
    go_wp2_with fail
    refine (known_any _).mono ?_
    rintro e w1 ⟨rfl, b1⟩
    go_wp2_with fail
    refine (Encode_any A cap l _ (HR.out.below b1) HL.out (by omega)).mono ?_
    rintro e w2 ⟨rfl, b2⟩
    have B2 : Below w.heap.size w w2 := b1.trans (b2.mono b1.size)
    clear b1 b2
    generalize strOf (encL l) = s at *
    go_wp2_with fail
    refine (decode_any s _ hsz2).mono ?_
    rintro e w3 ⟨A3, cap3, rfl, hr3, b3⟩
    rw [HC.out, HD.out] at hr3 ⊢
    have B3 : Below w.heap.size w w3 := B2.trans (b3.mono B2.size)
    clear b3 B2
    have hc1 := conv_reads hr3 cap3
    have hc2 := conv_reads (HR.out.below B3) cap
    clear hr3
    have heq : ((strOf l).toList == (strOf l).toList) = true := by simp
    go_wp2_with fail
    refine (Valid_any s _ hsz2).mono ?_
    rintro e w4 ⟨rfl, b4⟩
    rw [HC.out, HD.out]
    go_wp2_with fail
    go_ret
    exact ⟨rfl, B3.trans (b4.mono B3.size)⟩
  · have hd : decide ((4000 : Int) < (l.length : Int)) = true := decide_eq_true (by omega)
    go_enter Try.func6, Try.ntmps6
    go_wp2_with fail
    refine (known_any _).mono ?_
    rintro e w1 ⟨rfl, b1⟩
    go_wp2_with fail
    refine (known_any _).mono ?_
    rintro e w2 ⟨rfl, b2⟩
    go_wp2_with fail
    go_ret
    exact ⟨rfl, b1.trans (b2.mono b1.size)⟩
end Go.Proofs.Ytpooaondhpfkmaa
