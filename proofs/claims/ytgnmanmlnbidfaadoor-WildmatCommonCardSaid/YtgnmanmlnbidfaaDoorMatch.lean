/- Wildmat: Match, by a walk through its text. -/
import Derived.Test.YtgnmanmlnbidfaaDoorMat
import Derived.Deep.OwnRows
import Derived.Deep.RegionHeld3
import Derived.StillTailTactics
namespace Go.Proofs.YtgnmanmlnbidfaaDoor
open Go.RowKit

theorem info4 : (Tryd.prog.info? 4).map (fun i => (i.zero, i.size, i.bytes)) = some (some (.bool false), 1, 1) := by kernel_rfl

theorem made_bools (w : World) (n : Nat) : (w.alloc (.cells (madeCells #[.bool false] n) 4)).heap[w.heap.size]? = some (bools (List.replicate n false)) := by
  rw [heap_alloc_new]
  simp only [bools, Option.some.injEq, Obj.cells.injEq, and_true]
  apply Array.ext'
  simp only [madeCells, List.map_replicate, Array.toList_map, Array.toList_range]
  rw [List.eq_replicate_iff]
  refine ⟨by simp, fun x hx => ?_⟩
  obtain ⟨i, _, rfl⟩ := List.mem_map.1 hx
  have h : i % (#[Value.bool false] : Array Value).size = 0 := Nat.mod_one i
  rw [h]; rfl

theorem make_bools (n : Nat) (hn : n ≤ 1000000) (w : World) : (Instr.makeSlice 73 (.int .i64 (n : Int)) (.int .i64 (n : Int))).run Tryd.prog w = .ok (.slice (some ⟨w.heap.size, 0, none⟩) n n) (w.alloc (.cells (madeCells #[.bool false] n) 4)) :=
  run_make_row' (P := Tryd.prog) 73 4 (.bool false) 1 Tryd.underlying73 info4 rfl .i64 .i64 n (by omega) (by omega) w

set_option maxRecDepth 100000 in
set_option maxHeartbeats 2000000 in
theorem Match_any (b : Nat) (txt s : ByteArray) (L : List El) (A : Option Addr) (cap : Nat) (w : World) (hp : IsPat w w.heap.size b txt L A cap) (hs : s.size ≤ 100) :
    Calls Tryd.prog 15 #[.pointer (some ⟨b, 0, none⟩), .string s] w fun e w' => e = .returned (.bool (matchF L (chars s))) ∧ Below w.heap.size w w' := by
  have hlen := hp.len
  have hsm := Lib.hid hp.small
  have c1 := hp.els
  have HP := Lib.hid hp
  have E := Lib.hid (match_set L (chars s))
  have hmk := make_bools (L.length + 1) (by omega)
  have ec : ((L.length + 1 : Nat) : Int) = (L.length : Int) + 1 := by omega
  rw [ec] at hmk
  have HMK := Lib.hid hmk
  clear hp ec
  go_enter Tryd.func15, Tryd.ntmps15
  go_wp2_with fail
  obtain ⟨W, hW⟩ : ∃ W, w.alloc (.cells (madeCells #[.bool false] (L.length + 1)) 4) = W := ⟨_, rfl⟩
  have hB0 : Below w.heap.size w W := by rw [← hW]; exact (Below.refl _ _).alloc (Nat.le_refl _) _
  have hb0 : W.heap[w.heap.size]? = some (bools (List.replicate (L.length + 1) false)) := by rw [← hW]; exact made_bools w _
  rw [hW]
  clear hW hmk
  refine (enter_any w.heap.size b w.heap.size 0 txt L A cap _ W (HP.out.below hB0) (Nat.le_refl _) hb0 (by simp) (by omega)).mono ?_
  rintro e w1 ⟨rfl, HW1, g1⟩
  have HB1 : Hid (Below w.heap.size w w1) := Lib.hid (hB0.grown g1 hB0.size (fun k hk => by cases hk; exact Nat.le_refl _))
  have HS1 : Hid (w1.heap[w.heap.size]? = some (bools (setF L (chars s) 0))) := Lib.hid HW1.out
  clear hB0 hb0 g1 HW1
  go_wp2_with fail
  go_loopw [5, 24] (fun vs vi wr => ∃ (i sb : Nat), i ≤ s.size ∧ vs = .slice (some ⟨sb, 0, none⟩) (L.length + 1) (L.length + 1) ∧ vi = .int .i64 i ∧ Hid (w.heap.size ≤ sb) ∧ Hid (wr.heap[sb]? = some (bools (setF L (chars s) i))) ∧ Hid (Below w.heap.size w wr)) (fun _ vi _ => (s.size - intOf vi).toNat)
  case atStart => exact ⟨0, w.heap.size, by omega, rfl, rfl, Lib.hid (Nat.le_refl _), HS1, HB1⟩
  case round =>
    obtain ⟨i, sb, hi, rfl, rfl, HSB, HS, HB⟩ := hrel
    have hp := HP.out.below HB.out
    have c1 := hp.els
    clear hp
    by_cases hlt : i < s.size
    · have hix := chars_get s i hlt
      have hc256 := chars_lt s i
      have hsf : Hid (setF L (chars s) (i + 1) = nextF L (setF L (chars s) i) ((chars s).getD i 0) L.length) := Lib.hid rfl
      obtain ⟨S, hS⟩ : ∃ S, setF L (chars s) i = S := ⟨_, rfl⟩
      have hSl : Hid (S.length = L.length + 1) := Lib.hid (by rw [← hS]; exact setF_length _ _ _)
      rw [hS] at HS hsf
      have HSS := Lib.hid hS
      clear hS
      generalize (chars s).getD i 0 = c at *
      have hmk := HMK.out wr
      obtain ⟨W, hW⟩ : ∃ W, wr.alloc (.cells (madeCells #[.bool false] (L.length + 1)) 4) = W := ⟨_, rfl⟩
      rw [hW] at hmk
      have HBW : Hid (Below w.heap.size w W) := Lib.hid (by rw [← hW]; exact HB.out.alloc HB.out.size _)
      have HN0 : Hid (W.heap[wr.heap.size]? = some (bools (nextF L S c 0))) := Lib.hid (by rw [← hW]; exact made_bools wr _)
      have HSW : Hid (W.heap[sb]? = some (bools S)) := Lib.hid (by rw [← hW, Below.heap_alloc _ _ _ (lt_of_block HS.out)]; exact HS.out)
      have HLE : Hid (w.heap.size ≤ wr.heap.size ∧ sb < wr.heap.size) := Lib.hid ⟨HB.out.size, lt_of_block HS.out⟩
      obtain ⟨nb, hnb⟩ : ∃ nb, wr.heap.size = nb := ⟨_, rfl⟩
      rw [hnb] at HN0 HLE
      rw [hnb] at hmk
      have c2 := (HP.out.below HBW.out).els
      clear hW hnb c1
      go_wp2_with fail
      go_loopw [35] (fun vk wq => ∃ k : Nat, k ≤ L.length ∧ vk = .int .i64 k ∧ Hid (wq.heap[nb]? = some (bools (nextF L S c k))) ∧ Hid (wq.heap[sb]? = some (bools S)) ∧ Hid (Below w.heap.size w wq)) (fun vk _ => (L.length - intOf vk).toNat)
      case atStart => exact ⟨0, by omega, rfl, HN0, HSW, HBW⟩
      case round =>
        obtain ⟨k, hk, rfl, HNX, HSR, HBR⟩ := hrel
        have hp := HP.out.below HBR.out
        by_cases hlk : k < L.length
        · obtain ⟨eb, off, hA, _, c3⟩ := hp.at hlk
          subst hA
          have c4 := bools_cell HSR.out (i := k) (by rw [hSl.out]; omega)
          have i1 : (k : Int) < (L.length : Int) := by omega
          have hnx : Hid (nextF L S c (k + 1) = if S.getD k false = true ∧ (elAt L k).has c = true then enter L (nextF L S c k) (if (elAt L k).isStar = true then k else k + 1) else nextF L S c k) := Lib.hid rfl
          obtain ⟨T, v, fh, fr, PK⟩ := el_pack (elAt L k) (hsm.out _ (elAt_mem hlk))
          generalize elAt L k = e at *
          rw [PK.val] at c3
          have h1 := PK.nilH
          have h2 := PK.metH
          have h3 := PK.metR
          have h4 := PK.entH
          have h5 := PK.entR
          have HH := Lib.hid (PK.has c hc256)
          have HR := Lib.hid PK.rep
          clear PK hp c2
          by_cases hb : S.getD k false = true
          · rw [hb] at c4
            have HB4 := Lib.hid hb
            clear hb
            have i2 : (k : Int) < (L.length : Int) + 1 := by omega
            have i3 : (i : Int) < (s.size : Int) := by omega
            have i4 : (k : Int) < ((L.length + 1 : Nat) : Int) := by omega
            obtain ⟨q, hq⟩ : ∃ q, e.has c = q := ⟨_, rfl⟩
            rw [hq] at HH hnx
            rw [HB4.out] at hnx
            clear hq
            cases q with
            | false =>
              have hnx2 : Hid (nextF L S c (k + 1) = nextF L S c k) := Lib.hid (by rw [hnx.out, if_neg (by simp)])
              go_wp2_with fail
              go_still_tail 13, (by kernel_rfl)
              change wpList _ _ _ _ _ wr.drew
              have HBD : Hid (Below w.heap.size w wr.drew) := Lib.hid HBR.out.drew
              have HND : Hid (wr.drew.heap[nb]? = some (bools (nextF L S c k))) := Lib.hid HNX.out
              have HSD : Hid (wr.drew.heap[sb]? = some (bools S)) := Lib.hid HSR.out
              clear c3 c4
              generalize wr.drew = W2 at *
              go_wp2_with fail
              refine (HH.out _).mono ?_
              rintro e1 w2 ⟨rfl, b2⟩
              have X1 : Hid (w2.heap[nb]? = some (bools (nextF L S c (k + 1)))) := Lib.hid (by rw [hnx2.out]; exact (b2.block nb (lt_of_block HND.out)).trans HND.out)
              have X2 : Hid (w2.heap[sb]? = some (bools S)) := Lib.hid ((b2.block sb (lt_of_block HSD.out)).trans HSD.out)
              have X3 : Hid (Below w.heap.size w w2) := Lib.hid (HBD.out.trans (b2.mono HBD.out.size))
              clear b2
              go_wp2_with fail
              go_roundw
              case measure => simp [intOf]; omega
              case rel => exact ⟨k + 1, by omega, by go_num, X1, X2, X3⟩
            | true =>
              have hnx2 : Hid (nextF L S c (k + 1) = enter L (nextF L S c k) (if e.isStar = true then k else k + 1)) := Lib.hid (by rw [hnx.out, if_pos (by simp)])
              go_wp2_with fail
              go_still_tail 13, (by kernel_rfl)
              change wpList _ _ _ _ _ wr.drew
              have HBD : Hid (Below w.heap.size w wr.drew) := Lib.hid HBR.out.drew
              have HND : Hid (wr.drew.heap[nb]? = some (bools (nextF L S c k))) := Lib.hid HNX.out
              have HSD : Hid (wr.drew.heap[sb]? = some (bools S)) := Lib.hid HSR.out
              clear c3 c4
              generalize wr.drew = W2 at *
              go_wp2_with fail
              refine (HH.out _).mono ?_
              rintro e1 w2 ⟨rfl, b2⟩
              have X1 : Hid (w2.heap[nb]? = some (bools (nextF L S c k))) := Lib.hid ((b2.block nb (lt_of_block HND.out)).trans HND.out)
              have X2 : Hid (w2.heap[sb]? = some (bools S)) := Lib.hid ((b2.block sb (lt_of_block HSD.out)).trans HSD.out)
              have X3 : Hid (Below w.heap.size w w2) := Lib.hid (HBD.out.trans (b2.mono HBD.out.size))
              clear b2
              obtain ⟨q, hq⟩ : ∃ q, e.isStar = q := ⟨_, rfl⟩
              rw [hq] at HR hnx2
              clear hq
              cases q with
              | true =>
                go_wp2_with fail
                refine (HR.out _).mono ?_
                rintro e1 w3 ⟨rfl, b3⟩
                have Y1 : Hid (w3.heap[nb]? = some (bools (nextF L S c k))) := Lib.hid ((b3.block nb (lt_of_block X1.out)).trans X1.out)
                have Y2 : Hid (w3.heap[sb]? = some (bools S)) := Lib.hid ((b3.block sb (lt_of_block X2.out)).trans X2.out)
                have Y3 : Hid (Below w.heap.size w w3) := Lib.hid (X3.out.trans (b3.mono X3.out.size))
                clear b3
                go_wp2_with fail
                refine (enter_any w.heap.size b nb k txt L _ cap _ w3 (HP.out.below Y3.out) HLE.out.1 Y1.out (nextF_length _ _ _ _) hk).mono ?_
                rintro e1 w4 ⟨rfl, Z1, g4⟩
                have Z2 : Hid (w4.heap[sb]? = some (bools S)) := Lib.hid ((g4.block sb (lt_of_block Y2.out) (by intro h; have := Option.some.inj h; have := HLE.out.2; omega)).trans Y2.out)
                have Z3 : Hid (Below w.heap.size w w4) := Lib.hid (Y3.out.grown g4 Y3.out.size (fun j h => by cases h; exact HLE.out.1))
                have Z4 : Hid (w4.heap[nb]? = some (bools (nextF L S c (k + 1)))) := Lib.hid (by rw [hnx2.out]; simp only [reduceIte]; exact Z1.out)
                clear g4
                go_wp2_with fail
                go_roundw
                case measure => simp [intOf]; omega
                case rel => exact ⟨k + 1, by omega, by go_num, Z4, Z2, Z3⟩
              | false =>
                go_wp2_with fail
                refine (HR.out _).mono ?_
                rintro e1 w3 ⟨rfl, b3⟩
                have Y1 : Hid (w3.heap[nb]? = some (bools (nextF L S c k))) := Lib.hid ((b3.block nb (lt_of_block X1.out)).trans X1.out)
                have Y2 : Hid (w3.heap[sb]? = some (bools S)) := Lib.hid ((b3.block sb (lt_of_block X2.out)).trans X2.out)
                have Y3 : Hid (Below w.heap.size w w3) := Lib.hid (X3.out.trans (b3.mono X3.out.size))
                clear b3
                go_wp2_with fail
                refine (enter_any w.heap.size b nb (k + 1) txt L _ cap _ w3 (HP.out.below Y3.out) HLE.out.1 Y1.out (nextF_length _ _ _ _) (by omega)).mono ?_
                rintro e1 w4 ⟨rfl, Z1, g4⟩
                have Z2 : Hid (w4.heap[sb]? = some (bools S)) := Lib.hid ((g4.block sb (lt_of_block Y2.out) (by intro h; have := Option.some.inj h; have := HLE.out.2; omega)).trans Y2.out)
                have Z3 : Hid (Below w.heap.size w w4) := Lib.hid (Y3.out.grown g4 Y3.out.size (fun j h => by cases h; exact HLE.out.1))
                have Z4 : Hid (w4.heap[nb]? = some (bools (nextF L S c (k + 1)))) := Lib.hid (by rw [hnx2.out]; simp only [reduceIte, Bool.false_eq_true]; exact Z1.out)
                clear g4
                go_wp2_with fail
                go_roundw
                case measure => simp [intOf]; omega
                case rel => exact ⟨k + 1, by omega, by go_num, Z4, Z2, Z3⟩
          · have hb' : S.getD k false = false := by simpa using hb
            rw [hb'] at c4
            have hnx2 : Hid (nextF L S c (k + 1) = nextF L S c k) := Lib.hid (by rw [hnx.out, if_neg (fun h => hb h.1)])
            clear hb hb'
            go_wp2_with fail
            go_quiet (fail)
            go_wp2_with fail
            go_roundw
            case measure => simp [intOf]; omega
            case rel => exact ⟨k + 1, by omega, by go_num, Lib.hid (by rw [hnx2.out]; exact HNX.out), Lib.hid HSR.out, Lib.hid (below_drewN HBR.out _)⟩
        · obtain rfl : k = L.length := by omega
          have HF : Hid (wr.heap[nb]? = some (bools (setF L (chars s) (i + 1)))) := Lib.hid (by rw [hsf.out]; exact HNX.out)
          have HNB : Hid (w.heap.size ≤ nb) := Lib.hid HLE.out.1
          clear hp hk hlk
          go_wp2_with fail
          go_roundw
          case measure => simp [intOf]; omega
          case rel => exact ⟨i + 1, nb, by omega, rfl, by go_num, HNB, HF, HBR⟩
    · obtain rfl : i = s.size := by omega
      have c2 := bools_cell HS.out (i := L.length) (by rw [setF_length]; omega)
      have HM : Hid (matchF L (chars s) = (setF L (chars s) s.size).getD L.length false) := Lib.hid (by rw [← E.out, chars_length])
      generalize (setF L (chars s) s.size).getD L.length false = q at *
      clear hi hlt
      go_wp2_with fail
      go_ret
      exact ⟨by rw [HM.out]; rfl, HB.out⟩

end Go.Proofs.YtgnmanmlnbidfaaDoor
