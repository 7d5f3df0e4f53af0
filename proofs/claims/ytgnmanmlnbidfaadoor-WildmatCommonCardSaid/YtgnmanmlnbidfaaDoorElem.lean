/- Wildmat: the elements of patterns: their methods, called on the types and through the interface, by walks through their text. -/
import Derived.Test.YtgnmanmlnbidfaaDoorChr
namespace Go.Proofs.YtgnmanmlnbidfaaDoor
open Go.RowKit

/-- An element as the program holds it. -/
def elV : El → Value
  | .one c => .iface 61 (.int .u8 (c : Nat))
  | .cls s i => .iface 63 (.agg #[.string (bytesOf s), .bool i])
  | .star => .iface 65 (.agg #[])

/-- An element of bytes. -/
def El.small : El → Prop
  | .one c => c < 256
  | .cls s _ => ∀ c ∈ s, c < 256
  | .star => True

theorem oneHas_any (d c : Nat) (w : World) : Calls Tryd.prog 86 #[.int .u8 d, .int .u8 c] w fun e w' => e = .returned (.bool ((El.one d).has c)) ∧ Below w.heap.size w w' := by
  have E : Hid ((El.one d).has c = ((d : Int) == (c : Int))) := Lib.hid (by rw [Bool.eq_iff_iff]; simp only [El.has, beq_iff_eq]; omega)
  go_enter Tryd.func86, Tryd.ntmps86
  go_wp2_with fail
  go_ret
  exact ⟨by rw [E.out]; rfl, Below.refl _ _⟩

theorem oneRep_any (d : Nat) (w : World) : Calls Tryd.prog 87 #[.int .u8 d] w fun e w' => e = .returned (.bool false) ∧ Below w.heap.size w w' := by
  go_enter Tryd.func87, Tryd.ntmps87
  go_wp2_with fail
  go_ret
  exact ⟨rfl, Below.refl _ _⟩

theorem clsRep_any (s : ByteArray) (i : Bool) (w : World) : Calls Tryd.prog 89 #[.agg #[.string s, .bool i]] w fun e w' => e = .returned (.bool false) ∧ Below w.heap.size w w' := by
  go_enter Tryd.func89, Tryd.ntmps89
  go_wp2_with fail
  go_ret
  exact ⟨rfl, (Below.refl _ _).alloc (Nat.le_refl _) _⟩

theorem starRep_any (w : World) : Calls Tryd.prog 91 #[.agg #[]] w fun e w' => e = .returned (.bool true) ∧ Below w.heap.size w w' := by
  go_enter Tryd.func91, Tryd.ntmps91
  go_wp2_with fail
  go_ret
  exact ⟨rfl, (Below.refl _ _).alloc (Nat.le_refl _) _⟩

theorem starHas_any (c : Nat) (hc : c < 256) (w : World) : Calls Tryd.prog 90 #[.agg #[], .int .u8 c] w fun e w' => e = .returned (.bool (El.star.has c)) ∧ Below w.heap.size w w' := by
  go_enter Tryd.func90, Tryd.ntmps90
  go_wp2_with fail
  refine (named_any c hc _).mono ?_
  rintro e w1 ⟨rfl, rfl⟩
  go_wp2_with fail
  go_ret
  exact ⟨rfl, (Below.refl _ _).alloc (Nat.le_refl _) _⟩

theorem below_drewN {B : Nat} {a w : World} (h : Below B a w) (n : Nat) : Below B a (w.drewN n) := ⟨h.os, h.tape, h.output, h.size, h.block⟩

theorem named_q (c : Nat) (hc : c < 256) {b : Bool} (hb : namedB c = b) (w : World) : Calls Tryd.prog 31 #[.int .u8 c] w fun e w' => e = .returned (.bool b) ∧ w' = w :=
  (named_any c hc w).mono fun _ _ ⟨h1, h2⟩ => ⟨by rw [h1, hb], h2.symm⟩

theorem index_q (s : ByteArray) (c : Nat) (w : World) : Calls Tryd.prog 46 #[.string s, .int .u8 c] w fun e w' => e = .returned (.int .i64 (Lib.indexByte s.data.toList c.toUInt8)) ∧ w' = w :=
  Tryd.strings_IndexByte s c w

theorem clsHas_any (s : List Nat) (i : Bool) (c : Nat) (hs : ∀ c ∈ s, c < 256) (hc : c < 256) (w : World) : Calls Tryd.prog 88 #[.agg #[.string (bytesOf s), .bool i], .int .u8 c] w fun e w' => e = .returned (.bool ((El.cls s i).has c)) ∧ Below w.heap.size w w' := by
  obtain ⟨x, hx⟩ : ∃ x, Lib.indexByte (bytesOf s).data.toList c.toUInt8 = x := ⟨_, rfl⟩
  have hcn : decide (0 ≤ x) = s.contains c := by rw [← hx, index_mem, contains_chars s hs c hc]
  have HQ := fun w => index_q (bytesOf s) c w
  rw [hx] at HQ
  by_cases hn : namedB c = true
  · have E : Hid ((El.cls s i).has c = (decide (0 ≤ x) != i)) := Lib.hid (by rw [El.has, hn, ← hcn]; simp)
    have HN := fun w => named_q c hc hn w
    clear hn hcn hx
    go_enter Tryd.func88, Tryd.ntmps88
    go_wp2_with fail
    go_quiet ((first | (go_at_call 31; exact Calls.quiet_of_same (HN _)) | (go_at_call 46; exact Calls.quiet_of_same (HQ _))))
    go_wp2_with fail
    go_ret
    exact ⟨by rw [E.out]; rfl, below_drewN ((Below.refl _ _).alloc (Nat.le_refl _) _) _⟩
  · have hn' : namedB c = false := by simpa using hn
    have E : Hid ((El.cls s i).has c = false) := Lib.hid (by rw [El.has, hn']; rfl)
    have HN := fun w => named_q c hc hn' w
    clear hn hn' hcn hx
    go_enter Tryd.func88, Tryd.ntmps88
    go_wp2_with fail
    go_quiet ((first | (go_at_call 31; exact Calls.quiet_of_same (HN _)) | (go_at_call 46; exact Calls.quiet_of_same (HQ _))))
    go_wp2_with fail
    go_ret
    exact ⟨by rw [E.out]; rfl, below_drewN ((Below.refl _ _).alloc (Nat.le_refl _) _) _⟩

theorem m_rep61 (d : Int) (w : World) : (method 242 61 (.int .u8 d) "bulletin/wildmat.repeats").run Tryd.prog w = .ok (87, .int .u8 d) w := by kernel_rfl
theorem m_has61 (d : Int) (w : World) : (method 242 61 (.int .u8 d) "bulletin/wildmat.has").run Tryd.prog w = .ok (86, .int .u8 d) w := by kernel_rfl
theorem n_has61 (d : Int) (w : World) : (nilAhead 242 61 (.int .u8 d) "bulletin/wildmat.has").run Tryd.prog w = .ok (some false) w := by kernel_rfl
theorem m_rep63 (s : ByteArray) (i : Bool) (w : World) : (method 242 63 (.agg #[.string s, .bool i]) "bulletin/wildmat.repeats").run Tryd.prog w = .ok (89, .agg #[.string s, .bool i]) w := by kernel_rfl
theorem m_has63 (s : ByteArray) (i : Bool) (w : World) : (method 242 63 (.agg #[.string s, .bool i]) "bulletin/wildmat.has").run Tryd.prog w = .ok (88, .agg #[.string s, .bool i]) w := by kernel_rfl
theorem n_has63 (s : ByteArray) (i : Bool) (w : World) : (nilAhead 242 63 (.agg #[.string s, .bool i]) "bulletin/wildmat.has").run Tryd.prog w = .ok (some false) w := by kernel_rfl
theorem m_rep65  (w : World) : (method 242 65 (.agg #[]) "bulletin/wildmat.repeats").run Tryd.prog w = .ok (91, .agg #[]) w := by kernel_rfl
theorem m_has65  (w : World) : (method 242 65 (.agg #[]) "bulletin/wildmat.has").run Tryd.prog w = .ok (90, .agg #[]) w := by kernel_rfl
theorem n_has65  (w : World) : (nilAhead 242 65 (.agg #[]) "bulletin/wildmat.has").run Tryd.prog w = .ok (some false) w := by kernel_rfl

/-- An element as an interface value, with its two methods. -/
structure ElPack (e : El) (T : TypeId) (v : Value) (fh fr : FuncId) : Prop where
  val : elV e = .iface T v
  nilH : ∀ w : World, (nilAhead 242 T v "bulletin/wildmat.has").run Tryd.prog w = .ok (some false) w
  metH : ∀ w : World, (method 242 T v "bulletin/wildmat.has").run Tryd.prog w = .ok (fh, v) w
  metR : ∀ w : World, (method 242 T v "bulletin/wildmat.repeats").run Tryd.prog w = .ok (fr, v) w
  entH : ∀ (xs : Array Value) (w : World), (callFunc fh xs).run Tryd.prog w = .ok (.enter fh xs) w
  entR : ∀ (xs : Array Value) (w : World), (callFunc fr xs).run Tryd.prog w = .ok (.enter fr xs) w
  has : ∀ (c : Nat), c < 256 → ∀ w : World, Calls Tryd.prog fh #[v, .int .u8 c] w fun r w' => r = .returned (.bool (e.has c)) ∧ Below w.heap.size w w'
  rep : ∀ w : World, Calls Tryd.prog fr #[v] w fun r w' => r = .returned (.bool e.isStar) ∧ Below w.heap.size w w'

theorem el_pack (e : El) (he : e.small) : ∃ T v fh fr, ElPack e T v fh fr := by
  cases e with
  | one d => exact ⟨61, _, 86, 87, rfl, n_has61 _, m_has61 _, m_rep61 _, Tryd.call86, Tryd.call87, fun c _ w => oneHas_any d c w, fun w => oneRep_any d w⟩
  | cls s i => exact ⟨63, _, 88, 89, rfl, n_has63 _ _, m_has63 _ _, m_rep63 _ _, Tryd.call88, Tryd.call89, fun c hc w => clsHas_any s i c he hc w, fun w => clsRep_any _ i w⟩
  | star => exact ⟨65, _, 90, 91, rfl, n_has65, m_has65, m_rep65, Tryd.call90, Tryd.call91, fun c hc w => starHas_any c hc w, fun w => starRep_any w⟩

end Go.Proofs.YtgnmanmlnbidfaaDoor
