/- Base64: Size and Decode, by a walk through their text. -/
import Derived.Test.YtpooaondhpfkmaaDoorVals
import Derived.Deep.CutBlock
namespace Go.Proofs.YtpooaondhpfkmaaDoor
open Go.RowKit Go.Maps

def sizeF (n : Int) : Int := if n < 0 then 0 else if 131072 < n then 0 else (n + 2) / 3 * 4

theorem size_any (n : Int) (w : World) : Calls Tryd.prog 9 #[.int .i64 n] w fun e w' => e = .returned (.int .i64 (sizeF n)) ∧ w = w' := by
  by_cases h1 : n < 0
  · have hd : decide (n < 0) = true := decide_eq_true h1
    go_enter Tryd.func9, Tryd.ntmps9
    go_wp2
    go_ret
    exact ⟨by simp [sizeF, h1], rfl⟩
  · by_cases h2 : 131072 < n
    · have hd : decide (n < 0) = false := decide_eq_false h1
      have hd2 : decide (131072 < n) = true := decide_eq_true h2
      go_enter Tryd.func9, Tryd.ntmps9
      go_wp2
      go_ret
      exact ⟨by simp [sizeF, h2], rfl⟩
    · have hd : decide (n < 0) = false := decide_eq_false h1
      have hd2 : decide (131072 < n) = false := decide_eq_false h2
      have e : sizeF n = (n + 2) / 3 * 4 := by simp [sizeF, h1, h2]
      have E := Lib.hid e
      clear e
      go_enter Tryd.func9, Tryd.ntmps9
      go_wp2
      go_ret
      exact ⟨by rw [E.out]; rfl, rfl⟩

def chars (s : ByteArray) : List Nat := s.data.toList.map UInt8.toNat

theorem chars_length (s : ByteArray) : (chars s).length = s.size := by simp [chars]

theorem chars_get (s : ByteArray) (k : Nat) (h : k < s.size) : (s[k]'h).toNat = (chars s).getD k 0 := by
  have h' : k < (chars s).length := by rw [chars_length]; exact h
  rw [List.getD_eq_getElem?_getD, List.getElem?_eq_getElem h']
  simp [chars]
  rfl

theorem chars_lt (s : ByteArray) : ∀ c ∈ chars s, c < 256 := by
  intro c hc
  simp only [chars, List.mem_map] at hc
  obtain ⟨x, _, rfl⟩ := hc
  exact x.toNat_lt

theorem inPlace_any (s : ByteArray) (k : Nat) (w : World) (hs : s.size ≤ 174764) (_ : k < s.size) : Calls Tryd.prog 14 #[.string s, .int .i64 k] w fun e w' => e = .returned (.bool (inPl (chars s) k)) ∧ w = w' := by
  have hl := chars_length s
  by_cases h4 : s.size % 4 = 0
  · have b4 : (((s.size : Nat) : Int) % 4 != 0) = false := by simp; omega
    by_cases h1 : k + 1 = s.size
    · have b1 : ((k : Int) == (s.size : Int) - 1) = true := by simp; omega
      have e : inPl (chars s) k = true := by simp [inPl, hl, h4, h1]
      have E := Lib.hid e
      have H4 := Lib.hid h4
      have H1 := Lib.hid h1
      clear e hl h4 h1
      go_enter Tryd.func14, Tryd.ntmps14
      go_wp2_with fail
      go_ret
      exact ⟨by rw [E.out]; rfl, rfl⟩
    · have b1 : ((k : Int) == (s.size : Int) - 1) = false := by simp; omega
      by_cases h2 : k + 2 = s.size
      · have b2 : ((k : Int) == (s.size : Int) - 2) = true := by simp; omega
        have hix := chars_get s (s.size - 1) (by omega)
        have e : inPl (chars s) k = (((chars s).getD (s.size - 1) 0 : Int) == 61) := by
          simp only [inPl, hl, h4, h1, h2, decide_true, decide_false, Bool.true_and, Bool.false_or]
          rw [Bool.eq_iff_iff]
          simp only [decide_eq_true_eq, beq_iff_eq]
          omega
        have E := Lib.hid e
        have H4 := Lib.hid h4
        have H1 := Lib.hid h1
        have hb1 : s.size - 1 < s.size := by omega
        clear e
        generalize (chars s).getD (s.size - 1) 0 = cl at *
        go_enter Tryd.func14, Tryd.ntmps14
        go_wp2_with fail
        go_ret
        exact ⟨by rw [E.out]; rfl, rfl⟩
      · have b2 : ((k : Int) == (s.size : Int) - 2) = false := by simp; omega
        have e : inPl (chars s) k = false := by simp [inPl, hl, h1, h2]
        have E := Lib.hid e
        have H4 := Lib.hid h4
        have H1 := Lib.hid h1
        have H2 := Lib.hid h2
        clear e hl h4 h1 h2
        go_enter Tryd.func14, Tryd.ntmps14
        go_wp2_with fail
        go_ret
        exact ⟨by rw [E.out]; rfl, rfl⟩
  · have b4 : (((s.size : Nat) : Int) % 4 != 0) = true := by simp; omega
    have e : inPl (chars s) k = false := by simp [inPl, hl, h4]
    have E := Lib.hid e
    have H4 := Lib.hid h4
    clear e hl h4
    go_enter Tryd.func14, Tryd.ntmps14
    go_wp2_with fail
    go_ret
    exact ⟨by rw [E.out]; rfl, rfl⟩

/-- What Decode leaves. -/
def DecPost (l : List Nat) (w : World) (e : Ending) (w' : World) : Prop :=
  ∃ A cap, e = .returned (.tuple #[.slice A (decodeL l).1.length cap, .int .i64 ((decodeL l).2.1 : Nat), .int .i64 ((decodeL l).2.2 : Nat)]) ∧ Reads w' A (decodeL l).1 ∧ Below w.heap.size w w'

theorem okC_some {c : Nat} (h : okC c = true) : ∃ p, posN c = some p := by
  unfold okC at h
  exact Option.isSome_iff_exists.1 h

theorem okC_none {c : Nat} (h : okC c = false) : posN c = none := by
  unfold okC at h
  simpa using h

theorem pow6 : (2 : Int) ^ 6 = 64 := by decide

theorem decPost_of {l : List Nat} {w w' : World} {A : Option Addr} {cap at_ er : Nat} {o : List Nat} (h : decodeL l = (o, at_, er)) (hr : Reads w' A o) (hB : Below w.heap.size w w') :
    DecPost l w (.returned (.tuple #[.slice A o.length cap, .int .i64 at_, .int .i64 er])) w' := by
  refine ⟨A, cap, ?_, ?_, hB⟩
  · rw [h]
  · rw [h]; exact hr

theorem reads_of_row {w : World} {base : Nat} {v : Value} {o : List Nat} (h : w.ownsRow base 5 1 v o.length (vals o)) : ∃ A cap, v = .slice A o.length cap ∧ Reads w A o := by
  obtain ⟨h1, h2⟩ := h
  rcases h2 with ⟨rfl, h0⟩ | ⟨g, cap, cur, rfl, hg, hh, hn, hc, hcur, ht⟩
  · exact ⟨none, 0, by rw [h0], .inl (List.length_eq_zero_iff.1 h0)⟩
  · refine ⟨_, cap, rfl, .inr ⟨g, 0, rfl, lt_of_block hh, fun i hi => ?_⟩⟩
    simp only [World.cell?, hh, Nat.zero_add]
    have hi2 : i < o.length * 1 := by omega
    have e : cur.toList[i]? = (vals o)[i]? := by rw [← ht, List.getElem?_take_of_lt hi2]
    rw [Array.getElem?_toList] at e
    simp only [Option.isSome_none, Bool.false_eq_true, if_false]
    rw [e]
    simp [vals, cast, hi]

theorem map_grown {w w' : World} {m n : Nat} {D : DataW Unit} {base : Nat} {v : Value} {k : Nat} {xs : List Value} {o : Obj} (h : w.ownsMap Tryd.prog 5 (plainElem Tryd.prog 3) m n D) (hr : w.ownsRow base 5 1 v k xs) (hg : (w.alloc o).grownBy w' v.ownBlock) : w'.ownsMap Tryd.prog 5 (plainElem Tryd.prog 3) m n D := by
  refine (h.alloc o).kept hg ?_
  intro e
  obtain ⟨es, clock, h1, _⟩ := h
  obtain ⟨_, h2⟩ := hr
  rcases h2 with ⟨rfl, _⟩ | ⟨g, cap, cur, rfl, hg2, hh, _⟩
  · simp [Value.ownBlock] at e
  · simp [Value.ownBlock] at e
    subst e
    rw [hh] at h1
    cases h1

theorem HB2_grown {B : Nat} {w0 w w' : World} {m : Nat} {v : Value} {k : Nat} {xs : List Value} {o : Obj} (h : Below B w0 w) (hB : B ≤ m) (hBw : B ≤ w.heap.size) (hr : w.ownsRow (m + 1) 5 1 v k xs) (hg : (w.alloc o).grownBy w' v.ownBlock) : Below B w0 w' := by
  refine (h.alloc hBw o).grown hg (by simp; omega) ?_
  intro j e
  obtain ⟨_, h2⟩ := hr
  rcases h2 with ⟨rfl, _⟩ | ⟨g, cap, cur, rfl, hg2, hh, _⟩
  · simp [Value.ownBlock] at e
  · simp [Value.ownBlock] at e
    omega

set_option maxHeartbeats 4000000 in
theorem decode_any (s : ByteArray) (w : World) (hs : s.size ≤ 174764) : Calls Tryd.prog 8 #[.string s] w (DecPost (chars s) w) := by
  obtain ⟨i0, hi, hz0, hz1, hz2⟩ := info_parts infoByte
  have Hi := Lib.hid hi
  have H0 := Lib.hid hz0
  have H1 := Lib.hid hz1
  have H2 := Lib.hid hz2
  clear hi hz0 hz1 hz2
  have HLN := Lib.hid (chars_length s)
  go_enter Tryd.func8, Tryd.ntmps8
  go_wp2_with fail
  refine (size_any _ _).mono ?_
  rintro e w1 ⟨rfl, rfl⟩
  have hsz : sizeF 131072 = 174764 := by decide
  have hdz : decide ((174764 : Int) < (s.size : Int)) = false := decide_eq_false (by omega)
  go_wp2_with fail
  clear hsz
  refine (values_any _).mono ?_
  rintro e w1 ⟨m, rfl, hown, hmb, b1⟩
  clear hdz
  go_upto_block 0 with (fail)
  go_cut [6, 7, 9] (fun vo vb vl wc => ∃ (k v : Nat) (o : List Nat), Hid (decodeL (chars s) = finD (chars s) k ⟨0, v, o⟩) ∧ (∃ A cap, vo = .slice A o.length cap ∧ Reads wc A o) ∧ vb = .int .i64 v ∧ vl = .int .i64 ((k - 1 : Nat) : Int) ∧ k ≤ s.size ∧ v < 64 ∧ Below w.heap.size w wc)
  case first =>
    go_wp2_with fail
    go_loopw [6, 7, 8, 9, 20] (fun vo vb vc vl vi wr => ∃ k : Nat, k ≤ s.size ∧ vi = .int .i64 k ∧ vb = .int .i64 (decSt (posL ((chars s).take k))).v ∧ vc = .int .i64 (decSt (posL ((chars s).take k))).n ∧ vl = .int .i64 ((k - 1 : Nat) : Int) ∧ wr.ownsRow (m + 1) 5 1 vo (decSt (posL ((chars s).take k))).o.length (vals (decSt (posL ((chars s).take k))).o) ∧ wr.ownsMap Tryd.prog 5 (plainElem Tryd.prog 3) m 64 (valMap 64) ∧ Below w.heap.size w wr ∧ Hid (∀ c ∈ (chars s).take k, okC c = true)) (fun _ _ _ _ vi _ => (s.size - intOf vi).toNat)
    case atStart => exact ⟨0, by omega, rfl, rfl, rfl, rfl, World.ownsRow_nil _ _ _ _, hown, b1, by intro c hc; simp at hc⟩
    case round =>
      clear hown b1
      obtain ⟨k, hk, rfl, rfl, rfl, rfl, hrow, hown, HB, HV⟩ := hrel
      have hinv := decSt_inv (posL ((chars s).take k)) (posL_lt _)
      have hml : m < wr.heap.size := hown.lt
      have hpl : (posL ((chars s).take k)).length = min k s.size := by simp [posL, chars_length]
      by_cases hlt : k < s.size
      · have hix := chars_get s k hlt
        have hc : (chars s).getD k 0 < 256 := by rw [← hix]; exact (s[k]'hlt).toNat_lt
        have htk : (chars s).take (k + 1) = (chars s).take k ++ [(chars s).getD k 0] := by
          rw [List.take_succ_eq_append_getElem (by rw [chars_length]; exact hlt)]; simp [List.getD_eq_getElem?_getD, chars_length, hlt]
        have hbad := decodeL_bad HV.out (by rw [chars_length]; exact hlt)
        have hbrk := decodeL_break HV.out (by rw [chars_length]; exact hlt)
        have hinpl := fun W => inPlace_any s k W hs hlt
        cases hok : okC ((chars s).getD k 0) with
        | false =>
          have hno := (valMap_has ((chars s).getD k 0) 64 (by omega)).2 (posN_none (okC_none hok))
          have HBAD := Lib.hid (hbad hok)
          have HBRK := Lib.hid (hbrk hok)
          have HP := Lib.hid hinpl
          clear hbad hbrk hok htk hinpl
          generalize hcd : (chars s).getD k 0 = c at *
          have HCD := Lib.hid hcd
          clear hcd
          have hkey : keyOf Tryd.prog 5 (.int .u8 (c : Nat)) = some (.int .u8 (c : Nat)) := keyOf_int_mk Tryd.underlying5 (by simp [Lit.wf, IntKind.min, IntKind.max, IntKind.signed, IntKind.bits]; omega)
          have HKEY := Lib.hid hkey
          clear hkey
          generalize decSt (posL ((chars s).take k)) = st at *
          obtain ⟨n, v, o⟩ := st
          simp only at hinv hrow HBAD HBRK
          have hv : v < 64 := by omega
          by_cases h61 : c = 61
          · subst h61
            cases hb : inPl (chars s) k with
            | true =>
              have HB2 := Lib.hid hb
              clear hb
              go_wp2_with (at_lookup; refine wpList_lookup_own_ok_int _ rfl _ _ 39 rfl 5 3 .i64 law5 Tryd.underlying39 Tryd.underlying3 (zero3 _) m 64 _ rfl hown _ _ rfl HKEY.out ?_; intro cc hat hwc)
              refine (HP.out _).mono ?_
              rintro e w2 ⟨rfl, rfl⟩
              rw [HB2.out]
              go_wp2_with fail
              go_meet
              case rel =>
                obtain ⟨A, cap, rfl, hr⟩ := reads_of_row hrow
                exact ⟨k, v, o, HBRK.out ⟨by simp, HB2.out⟩, ⟨A, cap, rfl, hr⟩, rfl, rfl, by omega, hv, HB⟩
            | false =>
              have HB2 := Lib.hid hb
              clear hb
              go_wp2_with (at_lookup; refine wpList_lookup_own_ok_int _ rfl _ _ 39 rfl 5 3 .i64 law5 Tryd.underlying39 Tryd.underlying3 (zero3 _) m 64 _ rfl hown _ _ rfl HKEY.out ?_; intro cc hat hwc)
              refine (HP.out _).mono ?_
              rintro e w2 ⟨rfl, rfl⟩
              rw [HB2.out]
              go_wp2_with fail
              go_ret3
              exact decPost_of (HBAD.out (by rw [HB2.out]; simp)) (Or.inl rfl) HB
          · have hb61 : ((c : Int) == 61) = false := by simp; omega
            have H61 := Lib.hid h61
            clear h61
            go_wp2_with (at_lookup; refine wpList_lookup_own_ok_int _ rfl _ _ 39 rfl 5 3 .i64 law5 Tryd.underlying39 Tryd.underlying3 (zero3 _) m 64 _ rfl hown _ _ rfl HKEY.out ?_; intro cc hat hwc)
            go_ret3
            exact decPost_of (HBAD.out (fun x => H61.out x.1)) (Or.inl rfl) HB
        | true =>
          obtain ⟨p, hp⟩ := okC_some hok
          have hp64 := (posN_some hp).1
          obtain ⟨hyes, hat0⟩ := (valMap_has ((chars s).getD k 0) 64 (by omega)).1 p hp hp64
          have HAT := Lib.hid hat0
          have hst : decSt (posL ((chars s).take (k + 1))) = decStep (decSt (posL ((chars s).take k))) p := by
            rw [← decSt_snoc, htk]; simp only [posL, List.map_append, List.map_cons, List.map_nil, hp, Option.getD_some]
          have hv2 : Hid (∀ c ∈ (chars s).take (k + 1), okC c = true) := by
            show ∀ c ∈ _, _
            rw [htk]
            intro c hc
            rcases List.mem_append.1 hc with h | h
            · exact HV.out c h
            · rw [List.mem_singleton] at h; rw [h]; exact hok
          have HST := Lib.hid hst
          clear hbad hbrk hok htk hinpl hat0 hst hp
          generalize hcd : (chars s).getD k 0 = c at *
          have HCD := Lib.hid hcd
          clear hcd
          have hkey : keyOf Tryd.prog 5 (.int .u8 (c : Nat)) = some (.int .u8 (c : Nat)) := keyOf_int_mk Tryd.underlying5 (by simp [Lit.wf, IntKind.min, IntKind.max, IntKind.signed, IntKind.bits]; omega)
          have HKEY := Lib.hid hkey
          clear hkey
          generalize decSt (posL ((chars s).take k)) = st at *
          obtain ⟨n, v, o⟩ := st
          simp only at hinv hrow HST
          obtain ⟨hn, ho⟩ := hinv
          rcases hn with ⟨hn, hv⟩ | ⟨hn, hv⟩ | ⟨hn, hv⟩ | ⟨hn, hv⟩
          · subst hn
            obtain ⟨x, hx⟩ : ∃ x, x = v * 64 + p := ⟨_, rfl⟩
            have hor : bits BinOp.or IntKind.i64 ((v : Int) * 64) (p : Int) = (x : Int) := by
              rw [join64 6 (by decide) _ _ (by omega) (by rw [pow6]; omega) (by omega) (by omega) (by rw [pow6]; omega)]
              omega
            have hxl : x < 64 := by omega
            have HX := Lib.hid hx
            clear hx
            go_wp2_with (at_lookup; refine wpList_lookup_own_ok_int _ rfl _ _ 39 rfl 5 3 .i64 law5 Tryd.underlying39 Tryd.underlying3 (zero3 _) m 64 _ rfl hown _ _ rfl HKEY.out ?_; intro cc hat hwc; obtain rfl : cc = (p : Int) := (by rw [HAT.out] at hat; simpa using hat.symm))
            go_roundw
            case measure => simp [intOf]; omega
            case rel => exact ⟨k + 1, by omega, by go_num, by rw [HST.out]; simp [decStep, HX.out], by rw [HST.out]; simp [decStep], rfl, by rw [HST.out]; simpa [decStep] using hrow, hown, HB, hv2⟩
          · subst hn
            obtain ⟨x, hx⟩ : ∃ x, x = v * 64 + p := ⟨_, rfl⟩
            have hor : bits BinOp.or IntKind.i64 ((v : Int) * 64) (p : Int) = (x : Int) := by
              rw [join64 6 (by decide) _ _ (by omega) (by rw [pow6]; omega) (by omega) (by omega) (by rw [pow6]; omega)]
              omega
            have hxl : x < 4096 := by omega
            have HX := Lib.hid hx
            clear hx
            have hmk : bits BinOp.and IntKind.i64 (x : Int) 15 = (x : Int) % 16 := by
              exact mask64 4 15 (by decide) (by decide) (x : Int) (by omega) (by omega)
            go_wp2_with (first
              | (at_lookup; refine wpList_lookup_own_ok_int _ rfl _ _ 39 rfl 5 3 .i64 law5 Tryd.underlying39 Tryd.underlying3 (zero3 _) m 64 _ rfl hown _ _ rfl HKEY.out ?_; intro cc hat hwc; obtain rfl : cc = (p : Int) := (by rw [HAT.out] at hat; simpa using hat.symm))
              | (at_builtin; refine wpList_append_own _ rfl _ _ 31 rfl (m + 1) 5 i0 (.int .u8 0) 1 1 Tryd.underlying31 Hi.out H0.out H1.out H2.out rfl (by decide) _ _ _ rfl (hrow.alloc _) ⟨wr.heap.size, 0, none⟩ 1 1 [.int .u8 ((x : Int) / 16)] rfl rfl ?c1 ?c2 ?c3 ?c4 ?c5 ?_))
            case c1 =>
              intro j u hj
              match j, hj with
              | 0, hj => simp at hj; subst hj; simp [Addr.add]
            case c2 => intro u hu; simp at hu; subst hu; rfl
            case c3 => unfold maxLen; omega
            case c4 => omega
            case c5 => simp; omega
            intro v' w2 hrow' hgrow _
            go_wp2_with fail
            go_roundw
            case measure => simp [intOf]; omega
            case rel => exact ⟨k + 1, by omega, by go_num, by rw [HST.out]; simp [decStep, HX.out], by rw [HST.out]; simp [decStep], rfl, by rw [HST.out]; simpa [decStep, HX.out, vals_snoc] using hrow', map_grown hown hrow hgrow, HB2_grown HB hmb HB.size hrow hgrow, hv2⟩
          · subst hn
            obtain ⟨x, hx⟩ : ∃ x, x = v * 64 + p := ⟨_, rfl⟩
            have hor : bits BinOp.or IntKind.i64 ((v : Int) * 64) (p : Int) = (x : Int) := by
              rw [join64 6 (by decide) _ _ (by omega) (by rw [pow6]; omega) (by omega) (by omega) (by rw [pow6]; omega)]
              omega
            have hxl : x < 1024 := by omega
            have HX := Lib.hid hx
            clear hx
            have hmk : bits BinOp.and IntKind.i64 (x : Int) 3 = (x : Int) % 4 := by
              exact mask64 2 3 (by decide) (by decide) (x : Int) (by omega) (by omega)
            go_wp2_with (first
              | (at_lookup; refine wpList_lookup_own_ok_int _ rfl _ _ 39 rfl 5 3 .i64 law5 Tryd.underlying39 Tryd.underlying3 (zero3 _) m 64 _ rfl hown _ _ rfl HKEY.out ?_; intro cc hat hwc; obtain rfl : cc = (p : Int) := (by rw [HAT.out] at hat; simpa using hat.symm))
              | (at_builtin; refine wpList_append_own _ rfl _ _ 31 rfl (m + 1) 5 i0 (.int .u8 0) 1 1 Tryd.underlying31 Hi.out H0.out H1.out H2.out rfl (by decide) _ _ _ rfl (hrow.alloc _) ⟨wr.heap.size, 0, none⟩ 1 1 [.int .u8 ((x : Int) / 4)] rfl rfl ?c1 ?c2 ?c3 ?c4 ?c5 ?_))
            case c1 =>
              intro j u hj
              match j, hj with
              | 0, hj => simp at hj; subst hj; simp [Addr.add]
            case c2 => intro u hu; simp at hu; subst hu; rfl
            case c3 => unfold maxLen; omega
            case c4 => omega
            case c5 => simp; omega
            intro v' w2 hrow' hgrow _
            go_wp2_with fail
            go_roundw
            case measure => simp [intOf]; omega
            case rel => exact ⟨k + 1, by omega, by go_num, by rw [HST.out]; simp [decStep, HX.out], by rw [HST.out]; simp [decStep], rfl, by rw [HST.out]; simpa [decStep, HX.out, vals_snoc] using hrow', map_grown hown hrow hgrow, HB2_grown HB hmb HB.size hrow hgrow, hv2⟩
          · subst hn
            obtain ⟨x, hx⟩ : ∃ x, x = v * 64 + p := ⟨_, rfl⟩
            have hor : bits BinOp.or IntKind.i64 ((v : Int) * 64) (p : Int) = (x : Int) := by
              rw [join64 6 (by decide) _ _ (by omega) (by rw [pow6]; omega) (by omega) (by omega) (by rw [pow6]; omega)]
              omega
            have hxl : x < 256 := by omega
            have HX := Lib.hid hx
            clear hx
            have hmk : bits BinOp.and IntKind.i64 (x : Int) 0 = 0 := by
              rw [mask64 0 0 (by decide) (by decide) (x : Int) (by omega) (by omega)]; omega
            go_wp2_with (first
              | (at_lookup; refine wpList_lookup_own_ok_int _ rfl _ _ 39 rfl 5 3 .i64 law5 Tryd.underlying39 Tryd.underlying3 (zero3 _) m 64 _ rfl hown _ _ rfl HKEY.out ?_; intro cc hat hwc; obtain rfl : cc = (p : Int) := (by rw [HAT.out] at hat; simpa using hat.symm))
              | (at_builtin; refine wpList_append_own _ rfl _ _ 31 rfl (m + 1) 5 i0 (.int .u8 0) 1 1 Tryd.underlying31 Hi.out H0.out H1.out H2.out rfl (by decide) _ _ _ rfl (hrow.alloc _) ⟨wr.heap.size, 0, none⟩ 1 1 [.int .u8 ((x : Int))] rfl rfl ?c1 ?c2 ?c3 ?c4 ?c5 ?_))
            case c1 =>
              intro j u hj
              match j, hj with
              | 0, hj => simp at hj; subst hj; simp [Addr.add]
            case c2 => intro u hu; simp at hu; subst hu; rfl
            case c3 => unfold maxLen; omega
            case c4 => omega
            case c5 => simp; omega
            intro v' w2 hrow' hgrow _
            go_wp2_with fail
            go_roundw
            case measure => simp [intOf]; omega
            case rel => exact ⟨k + 1, by omega, by go_num, by rw [HST.out]; simp [decStep], by rw [HST.out]; simp [decStep], rfl, by rw [HST.out]; simpa [decStep, HX.out, vals_snoc] using hrow', map_grown hown hrow hgrow, HB2_grown HB hmb HB.size hrow hgrow, hv2⟩
      · obtain rfl : k = s.size := by omega
        have hend := decodeL_end (l := chars s) (by have := HV.out; rwa [← chars_length, List.take_length] at this)
        rw [chars_length] at hend
        have HE := Lib.hid hend
        clear hend
        generalize decSt (posL ((chars s).take s.size)) = st at *
        obtain ⟨n, v, o⟩ := st
        simp only at hinv hrow HE
        have hv : v < 64 := by omega
        go_wp2_with fail
        go_meet
        case rel =>
          obtain ⟨A, cap, rfl, hr⟩ := reads_of_row hrow
          exact ⟨s.size, v, o, HE.out, ⟨A, cap, rfl, hr⟩, rfl, rfl, by omega, hv, HB⟩
  case rest =>
    obtain ⟨k, v, o, hd, ⟨A, cap, rfl, hr⟩, rfl, rfl, hk, hv, HB⟩ := hcut
    have HR := Lib.hid hr
    clear hr hown b1
    by_cases h4 : s.size % 4 = 0
    · have b4 : (((s.size : Nat) : Int) % 4 != 0) = false := by simp; omega
      have H4 := Lib.hid h4
      clear h4
      by_cases h0 : v = 0
      · subst h0
        have hf : decodeL (chars s) = (o, 0, 0) := by rw [hd.out, finD, HLN.out, if_neg (by rw [H4.out]; simp), if_neg (by simp)]
        have HF := Lib.hid hf
        clear hf hd
        go_wp2_with fail
        go_ret3
        exact decPost_of HF.out HR.out HB
      · have bv : ((v : Int) != 0) = true := by simp; omega
        have hf : decodeL (chars s) = ([], k - 1, 3) := by rw [hd.out, finD, HLN.out, if_neg (by rw [H4.out]; simp), if_pos (by simpa using h0)]
        have HF := Lib.hid hf
        clear hf hd h0
        go_wp2_with fail
        go_ret3
        exact decPost_of HF.out (Or.inl rfl) HB
    · have b4 : (((s.size : Nat) : Int) % 4 != 0) = true := by simp; omega
      have hf : decodeL (chars s) = ([], s.size, 4) := by rw [hd.out, finD, HLN.out, if_pos h4]
      have HF := Lib.hid hf
      clear hf hd h4
      go_wp2_with fail
      go_ret3
      exact decPost_of HF.out (Or.inl rfl) HB

end Go.Proofs.YtpooaondhpfkmaaDoor
