/- Base64: the closure of encode(), by a walk through its text, at each count that it meets. -/
import Derived.Test.YtpooaondhpfkmaaDoorAlpha
import Derived.Test.YtpooaondhpfkmaaDoorBld
import Derived.Test.YtpooaondhpfkmaaDoorShelf
import Derived.BigQuiet
import Derived.RegionTactic
import Derived.Laws.BitsLemmas
namespace Go.Proofs.YtpooaondhpfkmaaDoor
open Go.RowKit

theorem wraps_i64 (n : Int) (h₀ : 0 ≤ n) (h₁ : n < 2 ^ 62) : IntKind.i64.wrap n = n := by
  rw [IntKind.wrap_i64]
  have : (2 : Int) ^ 62 = 4611686018427387904 := by decide
  rw [this] at h₁
  omega

theorem lt62 {x : Int} (h : x < 4611686018427387904) : x < 2 ^ 62 := by
  have e : (2 : Int) ^ 62 = 4611686018427387904 := by decide
  rw [e]; exact h

/-- '& (2^i - 1)' of a number that is not too large. -/
theorem mask64 (i : Nat) (m : Int) (hi : i ≤ 62) (hm : (2 : Int) ^ i - 1 = m) (x : Int) (h0 : 0 ≤ x) (h1 : x < 4611686018427387904) : bits BinOp.and IntKind.i64 x m = x % (m + 1) := by
  have h := bits_mask .i64 62 (by decide) wraps_i64 i hi x h0 (lt62 h1)
  rw [hm] at h
  rw [h, ← hm]
  simp

theorem join64 (i : Nat) (hi : i ≤ 62) (x y : Int) (hx₀ : 0 ≤ x) (hx : x % 2 ^ i = 0) (hx₁ : x < 4611686018427387904) (hy₀ : 0 ≤ y) (hy : y < 2 ^ i) : bits .or .i64 x y = x + y := by
  refine bits_join .i64 62 (by decide) wraps_i64 i x y hx₀ hx (lt62 hx₁) hy₀ hy (Int.lt_of_lt_of_le hy ?_)
  exact_mod_cast Nat.pow_le_pow_right (by decide) hi

/-- A store into a block that is neither the builder's nor a row of bytes leaves the builder as it was. -/
theorem builder_setCell {T e t : TypeId} {B s c : Nat} {q : Value} {bs : List Value} {w : World} {cs : Array Value} {fr : Nat × Nat} (h : Lib.BuilderAtF T e B s q bs w) (hc : w.heap[c]? = some (.cells cs t fr)) (ht : t ≠ e) (hsc : s ≠ c) (off : Nat) (u : Value) :
    Lib.BuilderAtF T e B s q bs (w.setCell ⟨c, off, none⟩ u) := by
  obtain ⟨hB, v, hb, hown, hne⟩ := h
  have hvc : v.ownBlock ≠ some c := Lib.ownBlock_neF hown hc ht
  refine ⟨hB, v, ?_, ?_, hne⟩
  · rw [Below.heap_setCell _ _ _ _ hsc]; exact hb
  · exact hown.kept (row := some c) ⟨rfl, rfl, rfl, by simp [World.setCell], fun k _ hk => Below.heap_setCell _ _ _ _ (fun e => hk (by simp [e]))⟩ (Or.inr hvc)

/-- What encode() keeps while it runs: count (block c), bits (block d), the characters (block a), the builder (block s). -/
structure EncSt (B c s a d : Nat) (n v : Nat) (out : List Int) (w : World) : Prop where
  hc : w.heap[c]? = some (.cells #[.int .i64 n] 3 (0, 0))
  hd : w.heap[d]? = some (.cells #[.int .i64 v] 3 (0, 0))
  ha : w.heap[a]? = some (bcells alphaL)
  hs : Lib.IsBuilderF 47 5 B s (out.map (Value.int .u8)) w

/-- The four blocks lie apart, from B on. -/
structure Apart4 (B c s a d : Nat) : Prop where
  dc : d ≠ c
  ac : a ≠ c
  sc : s ≠ c
  sd : s ≠ d
  ad : a ≠ d
  sa : s ≠ a
  Bc : B ≤ c
  Bd : B ≤ d

def ch (n : Nat) : Int := alphaL.getD n 0

theorem isB_setCell {T e t : TypeId} {B s c : Nat} {bs : List Value} {w : World} {cs : Array Value} {fr : Nat × Nat} (h : Lib.IsBuilderF T e B s bs w) (hc : w.heap[c]? = some (.cells cs t fr)) (ht : t ≠ e) (hsc : s ≠ c) (off : Nat) (u : Value) :
    Lib.IsBuilderF T e B s bs (w.setCell ⟨c, off, none⟩ u) :=
  h.elim (fun x => .inl (builder_setCell x hc ht hsc off u)) (fun x => .inr (builder_setCell x hc ht hsc off u))

theorem EncSt.setC {B c s a d n v : Nat} {out : List Int} {w : World} (h : EncSt B c s a d n v out w) (p : Apart4 B c s a d) (m : Nat) : EncSt B c s a d m v out (w.setCell ⟨c, 0, none⟩ (.int .i64 m)) :=
  ⟨one_setCell h.hc, (Below.heap_setCell _ _ _ _ p.dc).trans h.hd, (Below.heap_setCell _ _ _ _ p.ac).trans h.ha, isB_setCell h.hs h.hc (by decide) p.sc _ _⟩

theorem EncSt.setD {B c s a d n v : Nat} {out : List Int} {w : World} (h : EncSt B c s a d n v out w) (p : Apart4 B c s a d) (m : Nat) : EncSt B c s a d n m out (w.setCell ⟨d, 0, none⟩ (.int .i64 m)) :=
  ⟨(Below.heap_setCell _ _ _ _ (Ne.symm p.dc)).trans h.hc, one_setCell h.hd, (Below.heap_setCell _ _ _ _ p.ad).trans h.ha, isB_setCell h.hs h.hd (by decide) p.sd _ _⟩

theorem EncSt.drew {B c s a d n v : Nat} {out : List Int} {w : World} (h : EncSt B c s a d n v out w) : EncSt B c s a d n v out w.drew :=
  ⟨h.hc, h.hd, h.ha, h.hs.elim (fun x => .inl x.drew) (fun x => .inr x.drew)⟩

theorem EncSt.wrote {B c s a d n v : Nat} {out out' : List Int} {w w' : World} (h : EncSt B c s a d n v out w) (p : Apart4 B c s a d) (hk : Lib.OthersKept 5 (some s) w w') (hb : Lib.IsBuilderF 47 5 B s (out'.map (Value.int .u8)) w') : EncSt B c s a d n v out' w' := by
  refine ⟨hk _ _ h.hc (fun e => p.sc (Option.some.inj e).symm) ?_, hk _ _ h.hd (fun e => p.sd (Option.some.inj e).symm) ?_, hk _ _ h.ha (fun e => p.sa (Option.some.inj e).symm) ?_, hb⟩
  all_goals intro _ _ h; simp [bcells] at h

/-- What the closure is handed. -/
def emitArgs (c s a d : Nat) : Array Value := #[.pointer (some ⟨c, 0, none⟩), .pointer (some ⟨s, 0, none⟩), .pointer (some ⟨a, 0, none⟩), .pointer (some ⟨d, 0, none⟩)]


set_option maxHeartbeats 1000000 in
theorem emit_12 (B c s a d : Nat) (v : Nat) (out : List Int) (w : World) (h1 : v < 4096) (H : EncSt B c s a d 12 v out w) (P : Apart4 B c s a d) (hlen : out.length + 1 ≤ 140737488355328) (hBw : B ≤ w.heap.size) :
    Calls Tryd.prog 20 #[.pointer (some ⟨c, 0, none⟩), .pointer (some ⟨s, 0, none⟩), .pointer (some ⟨a, 0, none⟩), .pointer (some ⟨d, 0, none⟩)] w fun e w' =>
      e = .returned (.tuple #[]) ∧ EncSt B c s a d 6 (v % 64) (out ++ [ch (v / 64)]) w' ∧ Below B w w' := by
  have c1 : w.cell? ⟨c, 0, none⟩ = some (.int .i64 12) := cell_of_one H.hc
  have d1 := cell_of_one H.hd
  have cf := free_of_one H.hc
  have df := free_of_one H.hd
  have ba : bits BinOp.and IntKind.i64 ((v : Int) / 64) 63 = (v : Int) / 64 := by
    have h := mask64 6 63 (by decide) (by decide) ((v : Int) / 64) (by omega) (by omega)
    rw [h]; omega
  have bm : bits BinOp.and IntKind.i64 (v : Int) 63 = (v : Int) % 64 := by
    have h := mask64 6 63 (by decide) (by decide) (v : Int) (by omega) (by omega)
    exact h
  have a1 : w.cell? ⟨a, v / 64, none⟩ = some (.int .u8 (ch (v / 64))) := by
    have h := bcells_cell H.ha (v / 64) (by rw [alphaL_eq]; show _ < 64; omega)
    simpa [ch] using h
  have h2 : v / 64 < 64 := by omega
  have hdc := P.dc
  have hac := P.ac
  have H1 := H.setC P 6
  have hlen2 : (out.map (Value.int .u8)).length + 1 ≤ 140737488355328 := by simpa using hlen
  go_enter Tryd.func20, Tryd.ntmps20
  go_wp2_with fail
  refine (writeByte_k B s (out.map (Value.int .u8)) (ch (v / 64)) _ H1.hs hlen2 (by simpa using hBw)).mono ?_
  rintro e w2 ⟨rfl, hb2, B2, k2⟩
  have H2 := H1.wrote P k2 (out' := out ++ [ch (v / 64)]) (.inr (by simpa using hb2))
  have B0 : Below B w w2 := ((Below.refl B w).setCell (p := ⟨c, 0, none⟩) P.Bc _).trans B2
  clear hb2 B2 k2 H1 a1 ba c1 d1 cf df H
  have c1 : w2.cell? ⟨c, 0, none⟩ = some (.int .i64 6) := cell_of_one H2.hc
  have d1 := cell_of_one H2.hd
  have df := free_of_one H2.hd
  go_wp2_with fail
  go_region
  all_goals go_wp2
  all_goals go_end0
  all_goals exact ⟨rfl, by have := (H2.setD P (v % 64)).drew; simpa using this, (B0.setCell (p := ⟨d, 0, none⟩) P.Bd _).drew⟩

set_option maxHeartbeats 1000000 in
theorem emit_10 (B c s a d : Nat) (v : Nat) (out : List Int) (w : World) (h1 : v < 1024) (H : EncSt B c s a d 10 v out w) (P : Apart4 B c s a d) (hlen : out.length + 1 ≤ 140737488355328) (hBw : B ≤ w.heap.size) :
    Calls Tryd.prog 20 #[.pointer (some ⟨c, 0, none⟩), .pointer (some ⟨s, 0, none⟩), .pointer (some ⟨a, 0, none⟩), .pointer (some ⟨d, 0, none⟩)] w fun e w' =>
      e = .returned (.tuple #[]) ∧ EncSt B c s a d 4 (v % 16) (out ++ [ch (v / 16)]) w' ∧ Below B w w' := by
  have c1 : w.cell? ⟨c, 0, none⟩ = some (.int .i64 10) := cell_of_one H.hc
  have d1 := cell_of_one H.hd
  have cf := free_of_one H.hc
  have df := free_of_one H.hd
  have ba : bits BinOp.and IntKind.i64 ((v : Int) / 16) 63 = (v : Int) / 16 := by
    have h := mask64 6 63 (by decide) (by decide) ((v : Int) / 16) (by omega) (by omega)
    rw [h]; omega
  have bm : bits BinOp.and IntKind.i64 (v : Int) 15 = (v : Int) % 16 := by
    have h := mask64 4 15 (by decide) (by decide) (v : Int) (by omega) (by omega)
    exact h
  have a1 : w.cell? ⟨a, v / 16, none⟩ = some (.int .u8 (ch (v / 16))) := by
    have h := bcells_cell H.ha (v / 16) (by rw [alphaL_eq]; show _ < 64; omega)
    simpa [ch] using h
  have h2 : v / 16 < 64 := by omega
  have hdc := P.dc
  have hac := P.ac
  have H1 := H.setC P 4
  have hlen2 : (out.map (Value.int .u8)).length + 1 ≤ 140737488355328 := by simpa using hlen
  go_enter Tryd.func20, Tryd.ntmps20
  go_wp2_with fail
  refine (writeByte_k B s (out.map (Value.int .u8)) (ch (v / 16)) _ H1.hs hlen2 (by simpa using hBw)).mono ?_
  rintro e w2 ⟨rfl, hb2, B2, k2⟩
  have H2 := H1.wrote P k2 (out' := out ++ [ch (v / 16)]) (.inr (by simpa using hb2))
  have B0 : Below B w w2 := ((Below.refl B w).setCell (p := ⟨c, 0, none⟩) P.Bc _).trans B2
  clear hb2 B2 k2 H1 a1 ba c1 d1 cf df H
  have c1 : w2.cell? ⟨c, 0, none⟩ = some (.int .i64 4) := cell_of_one H2.hc
  have d1 := cell_of_one H2.hd
  have df := free_of_one H2.hd
  go_wp2_with fail
  go_region
  all_goals go_wp2
  all_goals go_end0
  all_goals exact ⟨rfl, by have := (H2.setD P (v % 16)).drew; simpa using this, (B0.setCell (p := ⟨d, 0, none⟩) P.Bd _).drew⟩

set_option maxHeartbeats 1000000 in
theorem emit_8 (B c s a d : Nat) (v : Nat) (out : List Int) (w : World) (h1 : v < 256) (H : EncSt B c s a d 8 v out w) (P : Apart4 B c s a d) (hlen : out.length + 1 ≤ 140737488355328) (hBw : B ≤ w.heap.size) :
    Calls Tryd.prog 20 #[.pointer (some ⟨c, 0, none⟩), .pointer (some ⟨s, 0, none⟩), .pointer (some ⟨a, 0, none⟩), .pointer (some ⟨d, 0, none⟩)] w fun e w' =>
      e = .returned (.tuple #[]) ∧ EncSt B c s a d 2 (v % 4) (out ++ [ch (v / 4)]) w' ∧ Below B w w' := by
  have c1 : w.cell? ⟨c, 0, none⟩ = some (.int .i64 8) := cell_of_one H.hc
  have d1 := cell_of_one H.hd
  have cf := free_of_one H.hc
  have df := free_of_one H.hd
  have ba : bits BinOp.and IntKind.i64 ((v : Int) / 4) 63 = (v : Int) / 4 := by
    have h := mask64 6 63 (by decide) (by decide) ((v : Int) / 4) (by omega) (by omega)
    rw [h]; omega
  have bm : bits BinOp.and IntKind.i64 (v : Int) 3 = (v : Int) % 4 := by
    have h := mask64 2 3 (by decide) (by decide) (v : Int) (by omega) (by omega)
    exact h
  have a1 : w.cell? ⟨a, v / 4, none⟩ = some (.int .u8 (ch (v / 4))) := by
    have h := bcells_cell H.ha (v / 4) (by rw [alphaL_eq]; show _ < 64; omega)
    simpa [ch] using h
  have h2 : v / 4 < 64 := by omega
  have hdc := P.dc
  have hac := P.ac
  have H1 := H.setC P 2
  have hlen2 : (out.map (Value.int .u8)).length + 1 ≤ 140737488355328 := by simpa using hlen
  go_enter Tryd.func20, Tryd.ntmps20
  go_wp2_with fail
  refine (writeByte_k B s (out.map (Value.int .u8)) (ch (v / 4)) _ H1.hs hlen2 (by simpa using hBw)).mono ?_
  rintro e w2 ⟨rfl, hb2, B2, k2⟩
  have H2 := H1.wrote P k2 (out' := out ++ [ch (v / 4)]) (.inr (by simpa using hb2))
  have B0 : Below B w w2 := ((Below.refl B w).setCell (p := ⟨c, 0, none⟩) P.Bc _).trans B2
  clear hb2 B2 k2 H1 a1 ba c1 d1 cf df H
  have c1 : w2.cell? ⟨c, 0, none⟩ = some (.int .i64 2) := cell_of_one H2.hc
  have d1 := cell_of_one H2.hd
  have df := free_of_one H2.hd
  go_wp2_with fail
  go_region
  all_goals go_wp2
  all_goals go_end0
  all_goals exact ⟨rfl, by have := (H2.setD P (v % 4)).drew; simpa using this, (B0.setCell (p := ⟨d, 0, none⟩) P.Bd _).drew⟩

set_option maxHeartbeats 1000000 in
theorem emit_6 (B c s a d : Nat) (v : Nat) (out : List Int) (w : World) (h1 : v < 64) (H : EncSt B c s a d 6 v out w) (P : Apart4 B c s a d) (hlen : out.length + 1 ≤ 140737488355328) (hBw : B ≤ w.heap.size) :
    Calls Tryd.prog 20 #[.pointer (some ⟨c, 0, none⟩), .pointer (some ⟨s, 0, none⟩), .pointer (some ⟨a, 0, none⟩), .pointer (some ⟨d, 0, none⟩)] w fun e w' =>
      e = .returned (.tuple #[]) ∧ EncSt B c s a d 0 0 (out ++ [ch v]) w' ∧ Below B w w' := by
  have c1 : w.cell? ⟨c, 0, none⟩ = some (.int .i64 6) := cell_of_one H.hc
  have d1 := cell_of_one H.hd
  have cf := free_of_one H.hc
  have df := free_of_one H.hd
  have ba : bits BinOp.and IntKind.i64 ((v : Int)) 63 = (v : Int) := by
    have h := mask64 6 63 (by decide) (by decide) ((v : Int)) (by omega) (by omega)
    rw [h]; omega
  have bm : bits BinOp.and IntKind.i64 (v : Int) 0 = 0 := by
    have h := mask64 0 0 (by decide) (by decide) (v : Int) (by omega) (by omega)
    rw [h]; omega
  have a1 : w.cell? ⟨a, v, none⟩ = some (.int .u8 (ch v)) := by
    have h := bcells_cell H.ha v (by rw [alphaL_eq]; show _ < 64; omega)
    simpa [ch] using h
  have h2 : v < 64 := by omega
  have hdc := P.dc
  have hac := P.ac
  have H1 := H.setC P 0
  have hlen2 : (out.map (Value.int .u8)).length + 1 ≤ 140737488355328 := by simpa using hlen
  go_enter Tryd.func20, Tryd.ntmps20
  go_wp2_with fail
  refine (writeByte_k B s (out.map (Value.int .u8)) (ch v) _ H1.hs hlen2 (by simpa using hBw)).mono ?_
  rintro e w2 ⟨rfl, hb2, B2, k2⟩
  have H2 := H1.wrote P k2 (out' := out ++ [ch v]) (.inr (by simpa using hb2))
  have B0 : Below B w w2 := ((Below.refl B w).setCell (p := ⟨c, 0, none⟩) P.Bc _).trans B2
  clear hb2 B2 k2 H1 a1 ba c1 d1 cf df H
  have c1 : w2.cell? ⟨c, 0, none⟩ = some (.int .i64 0) := cell_of_one H2.hc
  have d1 := cell_of_one H2.hd
  have df := free_of_one H2.hd
  go_wp2_with fail
  go_region
  all_goals go_wp2
  all_goals go_end0
  all_goals exact ⟨rfl, by have := (H2.setD P 0).drew; simpa using this, (B0.setCell (p := ⟨d, 0, none⟩) P.Bd _).drew⟩

end Go.Proofs.YtpooaondhpfkmaaDoor
