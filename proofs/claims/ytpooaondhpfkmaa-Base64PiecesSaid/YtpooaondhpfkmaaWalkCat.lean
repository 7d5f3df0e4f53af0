/- Base64: the law on concatenation, by a walk through its text. -/
import Derived.Test.YtpooaondhpfkmaaWalkRT
import Derived.Laws.AppendOwnNone
namespace Go.Proofs.Ytpooaondhpfkmaa
open Go.RowKit Go.Maps

theorem Reads.take {w : World} {A : Option Addr} {l : List Nat} (h : Reads w A l) (m : Nat) : Reads w A (l.take m) := by
  rcases h with rfl | ⟨b, off, rfl, hb, hc⟩
  · exact .inl (by simp)
  · refine .inr ⟨b, off, rfl, hb, fun i hi => ?_⟩
    rw [List.length_take] at hi
    rw [hc i (by omega)]
    rw [List.getD_eq_getElem?_getD, List.getD_eq_getElem?_getD, List.getElem?_take_of_lt (by omega)]

theorem strOf_append (a b : List Nat) : strOf a ++ strOf b = strOf (a ++ b) := by
  apply ByteArray.ext
  simp [strOf]

theorem wpList_append_reads {w : World} {ops : Array Oper} {rest : List Oper} {o : Oper} {a : Act} {Q : Exit → Act → World → Prop} (hgd : o.guard = none) (s x : Operand)
    (ho : o.op = .call { callee := .builtin .append, args := #[s, x], argTypes := #[22, 22] }) (base : Nat)
    (v : Value) (l1 l2 : List Nat) (hs : a.eval s = v) (hown : w.ownsRow base 5 1 v l1.length (vals l1)) (A : Option Addr) (cap : Nat) (hx : a.eval x = .slice A l2.length cap) (hr : Reads w A l2) (hnil : A = none → cap = 0)
    (hlen : l1.length + l2.length ≤ 140737488355328) (hbase : base ≤ w.heap.size)
    (h : ∀ v' w', w'.ownsRow base 5 1 v' (l1 ++ l2).length (vals (l1 ++ l2)) → w.grownBy w' v.ownBlock → wpList Try.prog ops Q rest (a.put o.dst v') w') : wpList Try.prog ops Q (o :: rest) a w := by
  obtain ⟨i0, hi, hz0, hz1, hz2⟩ := info_parts infoByte
  have hv : vals (l1 ++ l2) = vals l1 ++ vals l2 := by simp [vals, cast]
  have hl2 : (vals l2).length = l2.length * 1 := by rw [vals_length]; omega
  cases A with
  | none =>
    have hl0 : l2 = [] := by
      rcases hr with h | ⟨b, off, h, _⟩
      · exact h
      · cases h
    subst hl0
    have hc := hnil rfl
    subst hc
    exact wpList_append_own_none hgd s x 22 ho base 5 i0 1 Try.underlying22 hi v l1.length (vals l1) hs hown hx (h v w (by simpa using hown) ⟨rfl, rfl, rfl, Nat.le_refl _, fun _ _ _ => rfl⟩)
  | some ad =>
    refine wpList_append_own _ hgd s x 22 ho base 5 i0 (.int .u8 0) 1 1 Try.underlying22 hi hz0 hz1 hz2 rfl (by decide) v l1.length (vals l1) hs hown ad l2.length cap (vals l2) hx hl2 ?_ ?_ (by unfold maxLen; omega) (by omega) hbase ?_
    · intro j u hj
      rcases hr with h | ⟨b, off, h, hb, hc⟩
      · subst h; simp [vals, cast] at hj
      · obtain rfl := Option.some.inj h
        have hjl : j < l2.length := by
          rcases Nat.lt_or_ge j l2.length with h | h
          · exact h
          · rw [List.getElem?_eq_none (by rw [vals_length]; exact h)] at hj; cases hj
        have hplain : (⟨b, off, none⟩ : Addr).add j = ⟨b, off + j, none⟩ := by unfold Addr.add; split <;> simp_all
        rw [hplain, hc j hjl, ← hj]
        simp [vals, cast, hjl]
    · intro u hu
      simp only [vals, cast, List.mem_map] at hu
      obtain ⟨n, _, rfl⟩ := hu
      rfl
    · intro v' w' h1 h2 _
      refine h v' w' ?_ h2
      rw [hv, List.length_append]
      exact h1

set_option maxHeartbeats 1000000 in
theorem concat_walk (A B : Option Addr) (ca cb : Nat) (la lb : List Nat) (w : World) (hra : Reads w A la) (hrb : Reads w B lb) (hla : ∀ x ∈ la, x < 256) (hlb : ∀ x ∈ lb, x < 256) (hca : la.length ≤ ca) (hna : A = none → ca = 0) (hnb : B = none → cb = 0) :
    Calls Try.prog 5 #[.slice A la.length ca, .slice B lb.length cb] w fun e w' => e = .returned (.bool true) ∧ Below w.heap.size w w' := by
  have HNA := Lib.hid hna
  have HNB := Lib.hid hnb
  clear hna hnb
  have HRA := Lib.hid hra
  have HRB := Lib.hid hrb
  have HLA := Lib.hid hla
  have HLB := Lib.hid hlb
  clear hra hrb hla hlb
  by_cases h : la.length ≤ 600 ∧ lb.length ≤ 600
  · obtain ⟨h1, h2⟩ := h
    have hd : decide ((600 : Int) < (la.length : Int)) = false := decide_eq_false (by omega)
    have hd2 : decide ((600 : Int) < (lb.length : Int)) = false := decide_eq_false (by omega)
    obtain ⟨m, hm⟩ : ∃ m : Nat, m = la.length - la.length % 3 := ⟨_, rfl⟩
    have hm0 : (la.length : Int) - (la.length : Int) % 3 = (m : Int) := by omega
    have hm1 : m ≤ la.length := by omega
    have HM := Lib.hid hm
    clear hm
    go_enter Try.func5, Try.ntmps5
    go_wp2_with fail
    refine (known_any _).mono ?_
    rintro e w1 ⟨rfl, b1⟩
    go_wp2_with fail
    have hmt : (la.take m).length = m := by simp; omega
    have HMT := Lib.hid hmt
    clear hmt
    have E1 := Encode_any A ca (la.take m) w1 ((HRA.out.below b1).take m) (fun x hx => HLA.out x (List.mem_of_mem_take hx)) (by rw [HMT.out]; omega)
    rw [HMT.out] at E1
    refine E1.mono ?_
    clear E1
    rintro e w2 ⟨rfl, b2⟩
    have B2 := b1.trans (b2.mono b1.size)
    clear b1 b2
    go_wp2_with fail
    refine (Encode_any B cb lb w2 (HRB.out.below B2) HLB.out (by omega)).mono ?_
    rintro e w3 ⟨rfl, b3⟩
    have B3 := B2.trans (b3.mono B2.size)
    clear B2 b3
    have hw3 := B3.size
    have R1 := (HRA.out.below B3).take m
    have R2 := HRB.out.below B3
    have o1 : (w3.alloc (.cells #[] 5)).ownsRow w3.heap.size 5 1 (.slice (some ⟨w3.heap.size, 0, none⟩) 0 0) 0 (vals []) :=
      ⟨rfl, .inr ⟨w3.heap.size, 0, #[], rfl, Nat.le_refl _, heap_alloc_new _ _, by simp, by simp [maxLen], rfl, rfl⟩⟩
    have hb0 : Below w3.heap.size w3 (w3.alloc (.cells #[] 5)) := (Below.refl _ _).alloc (Nat.le_refl _) _
    go_wp2_with (at_builtin; refine wpList_append_reads rfl _ _ rfl w3.heap.size _ [] (la.take m) rfl o1 A ca ?c1 ?c2 ?c3 ?c4 ?c5 ?_)
    case c1 => rw [HMT.out]; rfl
    case c2 => exact R1.below hb0
    case c3 => exact HNA.out
    case c4 => simp; omega
    case c5 => simp
    intro v4 w4 o4' g4
    have o4 : w4.ownsRow w3.heap.size 5 1 v4 (la.take m).length (vals (la.take m)) := by rw [HMT.out]; exact o4'
    clear o4'
    have b4 : Below w3.heap.size w3 w4 := hb0.grown g4 (by simp) (fun k hk => (o1.lt k hk).1)
    clear o1 g4
    go_wp2_with (at_builtin; refine wpList_append_reads rfl _ _ rfl w3.heap.size _ (la.take m) lb rfl o4 B cb rfl ?c2 ?c3 ?c4 ?c5 ?_)
    case c2 => exact R2.below b4
    case c3 => exact HNB.out
    case c4 => rw [HMT.out]; omega
    case c5 => exact b4.size
    intro v5 w5 o5' g5
    have o5 : w5.ownsRow w3.heap.size 5 1 v5 (la.take m ++ lb).length (vals (la.take m ++ lb)) := by first | exact o5' | (rw [List.length_append, HMT.out]; exact o5')
    clear o5'
    have b5 : Below w3.heap.size w3 w5 := b4.grown g5 b4.size (fun k hk => (o4.lt k hk).1)
    clear o4 g5 b4 hb0
    obtain ⟨A5, cap5, rfl, R5⟩ := reads_of_row o5
    clear o5
    have B5 := B3.trans (b5.mono hw3)
    clear b5
    go_wp2_with fail
    have E5 := Encode_any A5 cap5 (la.take m ++ lb) w5 R5 (by
      intro x hx
      rcases List.mem_append.1 hx with h | h
      · exact HLA.out x (List.mem_of_mem_take h)
      · exact HLB.out x h) (by rw [List.length_append, HMT.out]; omega)
    rw [show (la.take m ++ lb).length = m + lb.length from by rw [List.length_append, HMT.out]] at E5
    refine E5.mono ?_
    clear E5
    rintro e w6 ⟨rfl, b6⟩
    have heq : Hid (encL (la.take m ++ lb) = encL (la.take m) ++ encL lb) := by
      show _ = _
      have ha : ∀ x ∈ la.take m, x < 256 := fun x hx => HLA.out x (List.mem_of_mem_take hx)
      rw [encL_encG _ ha, encL_encG _ HLB.out, encL_encG, encG_append]
      · rw [HMT.out, HM.out]; omega
      · intro x hx
        rcases List.mem_append.1 hx with h | h
        · exact ha x h
        · exact HLB.out x h
    rw [heq.out]
    clear R1 R2 R5
    have happ : strOf (encL (la.take m)) ++ strOf (encL lb) = strOf (encL (la.take m) ++ encL lb) := strOf_append _ _
    have hs1 : (strOf (encL (la.take m))).size ≤ 900 := by
      rw [strOf_size, encL_encG _ (fun x hx => HLA.out x (List.mem_of_mem_take hx)), encG_length, HMT.out]; omega
    have hs2 : (strOf (encL lb)).size ≤ 900 := by
      rw [strOf_size, encL_encG _ HLB.out, encG_length]; omega
    generalize strOf (encL (la.take m) ++ encL lb) = s3 at *
    generalize strOf (encL (la.take m)) = s1 at *
    generalize strOf (encL lb) = s2 at *
    have hss : (s3.toList == s3.toList) = true := by simp
    go_wp2_with fail
    go_ret
    exact ⟨rfl, B5.trans (b6.mono B5.size)⟩
  · by_cases h1 : la.length ≤ 600
    · have hd : decide ((600 : Int) < (la.length : Int)) = false := decide_eq_false (by omega)
      have hd2 : decide ((600 : Int) < (lb.length : Int)) = true := decide_eq_true (by omega)
      go_enter Try.func5, Try.ntmps5
      go_wp2_with fail
      refine (known_any _).mono ?_
      rintro e w1 ⟨rfl, b1⟩
      go_wp2_with fail
      refine (known_any _).mono ?_
      rintro e w2 ⟨rfl, b2⟩
      go_wp2_with fail
      go_ret
      exact ⟨rfl, b1.trans (b2.mono b1.size)⟩
    · have hd : decide ((600 : Int) < (la.length : Int)) = true := decide_eq_true (by omega)
      go_enter Try.func5, Try.ntmps5
      go_wp2_with fail
      refine (known_any _).mono ?_
      rintro e w1 ⟨rfl, b1⟩
      go_wp2_with fail
      refine (known_any _).mono ?_
      rintro e w2 ⟨rfl, b2⟩
      go_wp2_with fail
      go_ret
      exact ⟨rfl, b1.trans (b2.mono b1.size)⟩
end Go.Proofs.Ytpooaondhpfkmaa
