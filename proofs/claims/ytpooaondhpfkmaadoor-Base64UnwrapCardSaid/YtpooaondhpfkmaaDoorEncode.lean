/- Base64: encode(), by a walk through its text. -/
import Derived.Test.YtpooaondhpfkmaaDoorEnc
import Derived.Test.YtpooaondhpfkmaaDoorPlain
import Derived.LoopN
import Derived.Deep.DeepCutAuto
namespace Go.Proofs.YtpooaondhpfkmaaDoor
open Go.RowKit

/-- A slice value's elements, as numbers. -/
def Reads (w : World) (A : Option Addr) (l : List Nat) : Prop :=
  l = [] ∨ ∃ b off, A = some ⟨b, off, none⟩ ∧ b < w.heap.size ∧ ∀ i, i < l.length → w.cell? ⟨b, off + i, none⟩ = some (.int .u8 (l.getD i 0 : Nat))

theorem Reads.below {w w' : World} {A : Option Addr} {l : List Nat} (h : Reads w A l) (hb : Below w.heap.size w w') : Reads w' A l := by
  rcases h with h | ⟨b, off, h1, h2, h3⟩
  · exact .inl h
  · exact .inr ⟨b, off, h1, Nat.lt_of_lt_of_le h2 hb.size, fun i hi => (hb.cell (p := ⟨b, off + i, none⟩) h2).trans (h3 i hi)⟩

def cast (o : List Nat) : List Int := o.map fun (x : Nat) => (x : Int)
def strOf (o : List Nat) : ByteArray := ⟨(o.map UInt8.ofNat).toArray⟩

theorem alphaL_cast : alphaL = cast alphaN := by rw [alphaL_eq]; rfl
theorem ch_eq (n : Nat) : ch n = (chN n : Int) := by
  unfold ch chN
  rw [alphaL_cast]
  simp only [cast, List.getD_eq_getElem?_getD, List.getElem?_map]
  cases alphaN[n]? <;> rfl

theorem zero64_new (w : World) : (w.alloc (.cells #[.int .u8 0, .int .u8 0, .int .u8 0, .int .u8 0, .int .u8 0, .int .u8 0, .int .u8 0, .int .u8 0, .int .u8 0, .int .u8 0, .int .u8 0, .int .u8 0, .int .u8 0, .int .u8 0, .int .u8 0, .int .u8 0, .int .u8 0, .int .u8 0, .int .u8 0, .int .u8 0, .int .u8 0, .int .u8 0, .int .u8 0, .int .u8 0, .int .u8 0, .int .u8 0, .int .u8 0, .int .u8 0, .int .u8 0, .int .u8 0, .int .u8 0, .int .u8 0, .int .u8 0, .int .u8 0, .int .u8 0, .int .u8 0, .int .u8 0, .int .u8 0, .int .u8 0, .int .u8 0, .int .u8 0, .int .u8 0, .int .u8 0, .int .u8 0, .int .u8 0, .int .u8 0, .int .u8 0, .int .u8 0, .int .u8 0, .int .u8 0, .int .u8 0, .int .u8 0, .int .u8 0, .int .u8 0, .int .u8 0, .int .u8 0, .int .u8 0, .int .u8 0, .int .u8 0, .int .u8 0, .int .u8 0, .int .u8 0, .int .u8 0, .int .u8 0] 54)).heap[w.heap.size]? = some (bcells zero64) := heap_alloc_new w _

theorem cast_snoc (o : List Nat) (n : Nat) : cast (o ++ [chN n]) = cast o ++ [ch n] := by rw [ch_eq]; simp [cast]

theorem cast_snoc2 (o : List Nat) (n m : Nat) : cast (o ++ [chN n, chN m]) = cast o ++ [ch n, ch m] := by rw [ch_eq, ch_eq]; simp [cast]

def vals (o : List Nat) : List Value := (cast o).map (Value.int .u8)

theorem vals_length (o : List Nat) : (vals o).length = o.length := by simp [vals, cast]

theorem vals_snoc (o : List Nat) (c : Nat) : vals (o ++ [c]) = vals o ++ [.int .u8 c] := by simp [vals, cast]

theorem cells_eq (o : List Nat) (h : ∀ x ∈ o, x < 256) : vals o = Lib.byteCells (o.map UInt8.ofNat) := by
  simp only [vals, cast, Lib.byteCells, List.map_map]
  refine List.map_congr_left fun x hx => ?_
  simp only [Function.comp, UInt8.toNat_ofNat']
  rw [Nat.mod_eq_of_lt (h x hx)]

theorem pow8 : (2 : Int) ^ 8 = 256 := by decide

theorem start_st (B : Nat) (w : World) (hB : B ≤ w.heap.size) :
    EncSt B (w.heap.size + 1 + 1 + 1) (w.heap.size + 1) w.heap.size (w.heap.size + 1 + 1) 0 0 [] (((((w.alloc (bcells zero64)).setRow w.heap.size (alphaL.map (Value.int .u8)).toArray).alloc (.cells #[.pointer none, .slice none 0 0] 47)).alloc (.cells #[.int .i64 0] 3)).alloc (.cells #[.int .i64 0] 3)) ∧
    Below B w (((((w.alloc (bcells zero64)).setRow w.heap.size (alphaL.map (Value.int .u8)).toArray).alloc (.cells #[.pointer none, .slice none 0 0] 47)).alloc (.cells #[.int .i64 0] 3)).alloc (.cells #[.int .i64 0] 3)) := by
  obtain ⟨W, hW⟩ : ∃ W, W = (w.alloc (bcells zero64)).setRow w.heap.size (alphaL.map (Value.int .u8)).toArray := ⟨_, rfl⟩
  have hs : W.heap.size = w.heap.size + 1 := by rw [hW]; simp
  have ha : W.heap[w.heap.size]? = some (bcells alphaL) := by rw [hW]; exact setRow_heap _ _ _ _ _ _ (heap_alloc_new w _)
  have hb : Below B w W := by rw [hW]; exact below_setRow ((Below.refl _ _).alloc hB _) hB _
  rw [← hW]
  clear hW
  refine ⟨⟨?_, ?_, ?_, ?_⟩, ((hb.alloc (by omega) _).alloc (by simp; omega) _).alloc (by simp; omega) _⟩
  · have h := heap_alloc_new ((W.alloc (.cells #[.pointer none, .slice none 0 0] 47)).alloc (.cells #[.int .i64 0] 3)) (.cells #[.int .i64 0] 3)
    simp only [World.size_alloc, hs] at h
    exact h
  · have h := heap_alloc_new (W.alloc (.cells #[.pointer none, .slice none 0 0] 47)) (.cells #[.int .i64 0] 3)
    rw [Below.heap_alloc _ _ _ (by simp; omega)]
    simp only [World.size_alloc, hs] at h
    exact h
  · rw [Below.heap_alloc _ _ _ (by simp; omega), Below.heap_alloc _ _ _ (by simp; omega), Below.heap_alloc _ _ _ (by omega)]
    exact ha
  · have h := heap_alloc_new W (.cells #[.pointer none, .slice none 0 0] 47)
    rw [hs] at h
    refine .inl ⟨by omega, .slice none 0 0, ?_, ⟨rfl, .inl ⟨rfl, rfl⟩⟩, by simp [Value.ownBlock]⟩
    rw [Below.heap_alloc _ _ _ (by simp; omega), Below.heap_alloc _ _ _ (by simp; omega)]
    exact h

set_option maxHeartbeats 4000000 in
theorem encode_any (A : Option Addr) (cap : Nat) (l : List Nat) (w : World) (hr : Reads w A l) (hl : ∀ x ∈ l, x < 256) (hlen : l.length ≤ 1099511627776) :
    Calls Tryd.prog 12 #[.slice A l.length cap] w fun e w' => e = .returned (.string (strOf (encL l))) ∧ Below w.heap.size w w' := by
  have hmf : ∀ (fn : Fn) (first cap : Array Value) (w : World), (Instr.makeFunc fn first cap).run Tryd.prog w = .ok (.func fn first cap) w := fun _ _ _ _ => rfl
  have HR := Lib.hid hr
  have HLL := Lib.hid hl
  clear hr hl
  go_enter Tryd.func12, Tryd.ntmps12
  go_wp2_with fail
  refine (alpha_any _).mono ?_
  rintro e w1 ⟨rfl, b1⟩
  have hsz : Hid (alphaL.length = 64) := by rw [alphaL_eq]; rfl
  go_wp2_with (refine wpList_store_row rfl 54 _ _ rfl w1.heap.size _ rfl rfl 54 _ (zero64_new w1) ?c1 ?c2 ?c3 ?_)
  case c1 => exact info48.trans (by simp [hsz.out])
  case c2 => simp [hsz.out, zero64]
  case c3 => simp [Value.oneCell']
  go_loopw [14] (fun v wr => ∃ k : Nat, k ≤ l.length ∧ v = .int .i64 k ∧ EncSt w.heap.size (w1.heap.size + 1 + 1 + 1) (w1.heap.size + 1) w1.heap.size (w1.heap.size + 1 + 1) (encSt (l.take k)).n (encSt (l.take k)).v (cast (encSt (l.take k)).o) wr ∧ Below w.heap.size w wr) (fun v _ => (l.length - intOf v).toNat)
  case atStart =>
    have h := start_st w.heap.size w1 b1.size
    exact ⟨0, by omega, rfl, h.1, b1.trans h.2⟩
  case round =>
    obtain ⟨k, hk, rfl, HE, HB⟩ := hrel
    have P : Apart4 w.heap.size (w1.heap.size + 1 + 1 + 1) (w1.heap.size + 1) w1.heap.size (w1.heap.size + 1 + 1) := by
      have := b1.size
      constructor <;> omega
    by_cases hlt : k < l.length
    · obtain ⟨b, off, hA, hb, hcell⟩ : ∃ b off, A = some ⟨b, off, none⟩ ∧ b < w.heap.size ∧ wr.cell? ⟨b, off + k, none⟩ = some (.int .u8 (l.getD k 0 : Nat)) := by
        rcases HR.out with h | ⟨b, off, h1, h2, h3⟩
        · rw [h] at hlt; simp at hlt
        · exact ⟨b, off, h1, h2, (HB.cell (p := ⟨b, off + k, none⟩) h2).trans (h3 k hlt)⟩
      have hsn : encSt (l.take (k + 1)) = encStep (encSt (l.take k)) (l.getD k 0) := by
        rw [← encSt_snoc, List.take_succ_eq_append_getElem hlt]; simp [List.getD_eq_getElem?_getD, hlt]
      have hc : l.getD k 0 < 256 := HLL.out _ (by simp [List.getD_eq_getElem?_getD, hlt])
      have hinv := encSt_inv (l.take k) (fun x hx => HLL.out x (List.mem_of_mem_take hx))
      subst hA
      generalize l.getD k 0 = c at *
      have HSN := Lib.hid hsn
      clear hsn
      generalize encSt (l.take k) = st at *
      obtain ⟨n, v, o⟩ := st
      simp only [List.length_take] at hinv HE
      obtain ⟨hn, ho⟩ := hinv
      have hlo : (cast o).length + 2 ≤ 140737488355328 := by simp [cast]; omega
      rcases hn with ⟨hn, hv⟩ | ⟨hn, hv⟩ | ⟨hn, hv⟩
      · subst hn
        have hv' : v < 1 := by omega
        clear hv
        have c1 : wr.cell? ⟨w1.heap.size + 1 + 1 + 1, 0, none⟩ = some (.int .i64 0) := cell_of_one HE.hc
        have d1 := cell_of_one HE.hd
        have cf := free_of_one HE.hc
        have df := free_of_one HE.hd
        have hor : bits BinOp.or IntKind.i64 ((v : Int) * 256) (c : Int) = ((v * 256 + c : Nat) : Int) := by
          rw [join64 8 (by decide) _ _ (by omega) (by rw [pow8]; omega) (by omega) (by omega) (by rw [pow8]; omega)]
          omega
        have e1 : Hid (((v * 256 + c : Nat) : Int) = (v : Int) * 256 + c) := by show _ = _; omega
        have e2 : Hid (((8 : Nat) : Int) = 8) := rfl
        go_wp2_with fail
        go_region
        all_goals (go_wp2_with fail; have H1 := ((HE.setD P (v * 256 + c)).setC P 8).drew; have B1 := ((HB.setCell (p := ⟨w1.heap.size + 1 + 1, 0, none⟩) P.Bd (.int .i64 (v * 256 + c : Nat))).setCell (p := ⟨w1.heap.size + 1 + 1 + 1, 0, none⟩) P.Bc (.int .i64 (8 : Nat))).drew; rw [e1.out, e2.out] at H1 B1)
        all_goals clear c1 d1 cf df hor
        all_goals have hcc := cell_of_one H1.hc
        all_goals refine wp_loop_rounds 2 ?_
        all_goals rw [rounds_succ]
        all_goals go_wp2_with fail
        all_goals (refine (emit_8 w.heap.size (w1.heap.size + 1 + 1 + 1) (w1.heap.size + 1) w1.heap.size (w1.heap.size + 1 + 1) (v * 256 + c) (cast o) _ (by omega) H1 P (by omega) B1.size).mono ?_; rintro e w4 ⟨rfl, H2, B2⟩)
        all_goals (clear hcc; have hcc : w4.cell? ⟨w1.heap.size + 1 + 1 + 1, 0, none⟩ = some (.int .i64 2) := cell_of_one H2.hc)
        all_goals go_wp2_with fail
        all_goals rw [rounds_succ]
        all_goals go_wp2_with fail
        all_goals go_roundw
        all_goals first | (case measure => simp [intOf]; omega) | skip
        all_goals exact ⟨k + 1, by omega, by go_num, by rw [HSN.out]; simpa [encStep, cast_snoc, cast_snoc2] using H2, (B1.trans B2)⟩
      · subst hn
        have hv' : v < 4 := by omega
        clear hv
        have c1 : wr.cell? ⟨w1.heap.size + 1 + 1 + 1, 0, none⟩ = some (.int .i64 2) := cell_of_one HE.hc
        have d1 := cell_of_one HE.hd
        have cf := free_of_one HE.hc
        have df := free_of_one HE.hd
        have hor : bits BinOp.or IntKind.i64 ((v : Int) * 256) (c : Int) = ((v * 256 + c : Nat) : Int) := by
          rw [join64 8 (by decide) _ _ (by omega) (by rw [pow8]; omega) (by omega) (by omega) (by rw [pow8]; omega)]
          omega
        have e1 : Hid (((v * 256 + c : Nat) : Int) = (v : Int) * 256 + c) := by show _ = _; omega
        have e2 : Hid (((10 : Nat) : Int) = 10) := rfl
        go_wp2_with fail
        go_region
        all_goals (go_wp2_with fail; have H1 := ((HE.setD P (v * 256 + c)).setC P 10).drew; have B1 := ((HB.setCell (p := ⟨w1.heap.size + 1 + 1, 0, none⟩) P.Bd (.int .i64 (v * 256 + c : Nat))).setCell (p := ⟨w1.heap.size + 1 + 1 + 1, 0, none⟩) P.Bc (.int .i64 (10 : Nat))).drew; rw [e1.out, e2.out] at H1 B1)
        all_goals clear c1 d1 cf df hor
        all_goals have hcc := cell_of_one H1.hc
        all_goals refine wp_loop_rounds 2 ?_
        all_goals rw [rounds_succ]
        all_goals go_wp2_with fail
        all_goals (refine (emit_10 w.heap.size (w1.heap.size + 1 + 1 + 1) (w1.heap.size + 1) w1.heap.size (w1.heap.size + 1 + 1) (v * 256 + c) (cast o) _ (by omega) H1 P (by omega) B1.size).mono ?_; rintro e w4 ⟨rfl, H2, B2⟩)
        all_goals (clear hcc; have hcc : w4.cell? ⟨w1.heap.size + 1 + 1 + 1, 0, none⟩ = some (.int .i64 4) := cell_of_one H2.hc)
        all_goals go_wp2_with fail
        all_goals rw [rounds_succ]
        all_goals go_wp2_with fail
        all_goals go_roundw
        all_goals first | (case measure => simp [intOf]; omega) | skip
        all_goals exact ⟨k + 1, by omega, by go_num, by rw [HSN.out]; simpa [encStep, cast_snoc, cast_snoc2] using H2, (B1.trans B2)⟩
      · subst hn
        have hv' : v < 16 := by omega
        clear hv
        have c1 : wr.cell? ⟨w1.heap.size + 1 + 1 + 1, 0, none⟩ = some (.int .i64 4) := cell_of_one HE.hc
        have d1 := cell_of_one HE.hd
        have cf := free_of_one HE.hc
        have df := free_of_one HE.hd
        have hor : bits BinOp.or IntKind.i64 ((v : Int) * 256) (c : Int) = ((v * 256 + c : Nat) : Int) := by
          rw [join64 8 (by decide) _ _ (by omega) (by rw [pow8]; omega) (by omega) (by omega) (by rw [pow8]; omega)]
          omega
        have e1 : Hid (((v * 256 + c : Nat) : Int) = (v : Int) * 256 + c) := by show _ = _; omega
        have e2 : Hid (((12 : Nat) : Int) = 12) := rfl
        go_wp2_with fail
        go_region
        all_goals (go_wp2_with fail; have H1 := ((HE.setD P (v * 256 + c)).setC P 12).drew; have B1 := ((HB.setCell (p := ⟨w1.heap.size + 1 + 1, 0, none⟩) P.Bd (.int .i64 (v * 256 + c : Nat))).setCell (p := ⟨w1.heap.size + 1 + 1 + 1, 0, none⟩) P.Bc (.int .i64 (12 : Nat))).drew; rw [e1.out, e2.out] at H1 B1)
        all_goals clear c1 d1 cf df hor
        all_goals have hcc := cell_of_one H1.hc
        all_goals refine wp_loop_rounds 3 ?_
        all_goals rw [rounds_succ]
        all_goals go_wp2_with fail
        all_goals (refine (emit_12 w.heap.size (w1.heap.size + 1 + 1 + 1) (w1.heap.size + 1) w1.heap.size (w1.heap.size + 1 + 1) (v * 256 + c) (cast o) _ (by omega) H1 P (by omega) B1.size).mono ?_; rintro e w4 ⟨rfl, H2, B2⟩)
        all_goals (clear hcc; have hcc : w4.cell? ⟨w1.heap.size + 1 + 1 + 1, 0, none⟩ = some (.int .i64 6) := cell_of_one H2.hc)
        all_goals go_wp2_with fail
        all_goals rw [rounds_succ]
        all_goals go_wp2_with fail
        all_goals (refine (emit_6 w.heap.size (w1.heap.size + 1 + 1 + 1) (w1.heap.size + 1) w1.heap.size (w1.heap.size + 1 + 1) ((v * 256 + c) % 64) _ _ (by omega) H2 P (by simp; omega) (B1.trans B2).size).mono ?_; rintro e w5 ⟨rfl, H3, B3⟩)
        all_goals (clear hcc; have hcc : w5.cell? ⟨w1.heap.size + 1 + 1 + 1, 0, none⟩ = some (.int .i64 0) := cell_of_one H3.hc)
        all_goals go_wp2_with fail
        all_goals rw [rounds_succ]
        all_goals go_wp2_with fail
        all_goals go_roundw
        all_goals first | (case measure => simp [intOf]; omega) | skip
        all_goals exact ⟨k + 1, by omega, by go_num, by rw [HSN.out]; simpa [encStep, cast_snoc, cast_snoc2] using H3, ((B1.trans B2).trans B3)⟩
    · obtain rfl : k = l.length := by omega
      rw [List.take_length] at HE
      have hinv := encSt_inv l HLL.out
      have HF := encL_eq l
      clear hlt hk HR
      generalize encSt l = st at *
      have HFL := Lib.hid HF
      clear HF
      obtain ⟨n, v, o⟩ := st
      simp only at hinv HE
      obtain ⟨hn, ho⟩ := hinv
      have hlo : (cast o).length + 2 ≤ 140737488355328 := by simp [cast]; omega
      have cc := cell_of_one HE.hc
      have dd := cell_of_one HE.hd
      have cf := free_of_one HE.hc
      have df := free_of_one HE.hd
      go_upto_if 31 with (fail)
      go_cut [] (fun wc => ∃ f : List Nat, Hid (flush ⟨n, v, o⟩ = f) ∧ Lib.IsBuilderF 47 5 w.heap.size (w1.heap.size + 1) (vals f) wc ∧ f.length ≤ 2199023255560 ∧ Below w.heap.size w wc)
      case first =>
        clear cc
        rcases hn with ⟨hn, hv⟩ | ⟨hn, hv⟩ | ⟨hn, hv⟩
        · subst hn
          go_wp2_with fail
          go_meet
          case rel => exact ⟨o, rfl, HE.hs, by omega, HB⟩
        · subst hn
          have cc : wr.cell? ⟨w1.heap.size + 1 + 1 + 1, 0, none⟩ = some (.int .i64 2) := cell_of_one HE.hc
          have H1 := (HE.setD P (v * 16)).setC P 6
          have B1 := (HB.setCell (p := ⟨w1.heap.size + 1 + 1, 0, none⟩) P.Bd (.int .i64 (v * 16 : Nat))).setCell (p := ⟨w1.heap.size + 1 + 1 + 1, 0, none⟩) P.Bc (.int .i64 (6 : Nat))
          have e1 : ((v * 16 : Nat) : Int) = (v : Int) * 16 := by omega
          have e2 : ((6 : Nat) : Int) = 6 := rfl
          rw [e1, e2] at H1 B1
          clear e1 e2
          go_wp2_with fail
          refine (emit_6 w.heap.size (w1.heap.size + 1 + 1 + 1) (w1.heap.size + 1) w1.heap.size (w1.heap.size + 1 + 1) (v * 16) (cast o) _ (by omega) H1 P (by omega) B1.size).mono ?_
          rintro e w4 ⟨rfl, H2, B2⟩
          go_wp2_with fail
          go_meet
          case rel => exact ⟨o ++ [chN (v * 16)], by rw [show flush ⟨2, v, o⟩ = o ++ [chN (v * 16)] from rfl]; rfl, by rw [vals, cast_snoc]; exact H2.hs, by simp; omega, B1.trans B2⟩
        · subst hn
          have cc : wr.cell? ⟨w1.heap.size + 1 + 1 + 1, 0, none⟩ = some (.int .i64 4) := cell_of_one HE.hc
          have H1 := (HE.setD P (v * 4)).setC P 6
          have B1 := (HB.setCell (p := ⟨w1.heap.size + 1 + 1, 0, none⟩) P.Bd (.int .i64 (v * 4 : Nat))).setCell (p := ⟨w1.heap.size + 1 + 1 + 1, 0, none⟩) P.Bc (.int .i64 (6 : Nat))
          have e1 : ((v * 4 : Nat) : Int) = (v : Int) * 4 := by omega
          have e2 : ((6 : Nat) : Int) = 6 := rfl
          rw [e1, e2] at H1 B1
          clear e1 e2
          go_wp2_with fail
          refine (emit_6 w.heap.size (w1.heap.size + 1 + 1 + 1) (w1.heap.size + 1) w1.heap.size (w1.heap.size + 1 + 1) (v * 4) (cast o) _ (by omega) H1 P (by omega) B1.size).mono ?_
          rintro e w4 ⟨rfl, H2, B2⟩
          go_wp2_with fail
          go_meet
          case rel => exact ⟨o ++ [chN (v * 4)], by rw [show flush ⟨4, v, o⟩ = o ++ [chN (v * 4)] from rfl]; rfl, by rw [vals, cast_snoc]; exact H2.hs, by simp; omega, B1.trans B2⟩
      case rest =>
        obtain ⟨f, hf, hb, hfl, BB⟩ := hcut
        have hlt := encL_lt l
        have HE : Hid (encL l = padN f) := by rw [HFL.out, hf.out]; rfl
        have HLT : Hid (∀ x ∈ padN f, x < 256) := by rw [← HE.out]; exact hlt
        clear hn ho cc dd cf df HFL hlt hf hlo P
        go_wp2_with fail
        go_loopg [] ((4 - f.length % 4) % 4) (fun g wx => ∃ j : Nat, Hid (g + j = (4 - f.length % 4) % 4) ∧ Lib.IsBuilderF 47 5 w.heap.size (w1.heap.size + 1) (vals (f ++ List.replicate j 61)) wx ∧ Below w.heap.size w wx)
        case atStart => exact ⟨0, rfl, by simpa using hb, BB⟩
        case round =>
          clear hb BB
          obtain ⟨j, hj, hb, BB⟩ := hrel
          have hlen2 : (vals (f ++ List.replicate j 61)).length = f.length + j := by rw [vals_length]; simp
          have HV : Hid (vals (f ++ List.replicate j 61) ++ [.int .u8 61] = vals (f ++ List.replicate (j + 1) 61)) := by
            rw [List.replicate_succ', ← List.append_assoc, vals_snoc]; rfl
          have HC : Hid (gk = 0 → vals (f ++ List.replicate j 61) = Lib.byteCells ((encL l).map UInt8.ofNat)) := by
            intro h0
            have := hj.out
            rw [HE.out, ← cells_eq _ HLT.out, padN]
            congr 3
            omega
          generalize vals (f ++ List.replicate j 61) = bs at *
          by_cases hg : gk = 0
          · have ht : (((bs.length : Nat) : Int) % 4 != 0) = false := by
              have := hj.out
              rw [hlen2]; simp; omega
            have hbs := Lib.hid (HC.out hg)
            clear hj HV HC hg hlen2
            go_wp2_with fail
            refine (Tryd.Builder_Len_f _ _ _ _ hb).mono ?_
            rintro e w5 ⟨rfl, rfl⟩
            go_wp2_with fail
            rw [hbs.out] at hb
            refine (Tryd.Builder_String_any_k _ _ _ _ hb BB.size).mono ?_
            rintro e w6 ⟨rfl, h1, B3, k3⟩
            go_wp2_with fail
            go_ret
            exact ⟨rfl, BB.trans B3⟩
          · have ht : (((bs.length : Nat) : Int) % 4 != 0) = true := by
              have := hj.out
              rw [hlen2]; simp; omega
            have hl3 : bs.length + 1 ≤ 140737488355328 := by have := hj.out; omega
            have hj2 : Hid (gk - 1 + (j + 1) = (4 - f.length % 4) % 4) := by have := hj.out; show _ = _; omega
            clear hj HC hlen2
            go_wp2_with fail
            refine (Tryd.Builder_Len_f _ _ _ _ hb).mono ?_
            rintro e w5 ⟨rfl, rfl⟩
            go_wp2_with fail
            refine (writeByte_k _ _ _ _ _ hb hl3 BB.size).mono ?_
            rintro e w6 ⟨rfl, h1, B3, k3⟩
            go_wp2_with fail
            go_roundg (gk - 1)
            case measure => omega
            case rel => exact ⟨j + 1, hj2, .inr (by rw [← HV.out]; exact h1), BB.trans B3⟩
end Go.Proofs.YtpooaondhpfkmaaDoor
