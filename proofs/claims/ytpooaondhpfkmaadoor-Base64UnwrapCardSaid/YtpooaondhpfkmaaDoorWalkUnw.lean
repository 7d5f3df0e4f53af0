/- Base64: the law Base64Unwrap, by a walk through its text. -/
import Derived.Test.YtpooaondhpfkmaaDoorRUnw
namespace Go.Proofs.YtpooaondhpfkmaaDoor
open Go.RowKit

theorem unwrap_walk (s : ByteArray) (m : Int) (w : World) (hm : w.cell? ⟨0, 0, none⟩ = some (.int .i64 m)) :
    Calls Tryd.prog 3 #[.string s] w fun e w' => e = .returned (.bool true) ∧ Below w.heap.size w w' := by
  have HM := Lib.hid hm
  have h0 := Lib.hid (cell_lt hm)
  clear hm
  by_cases hs : 600 < s.size
  · have hd : decide ((600 : Int) < (s.size : Int)) = true := decide_eq_true (by omega)
    go_enter Tryd.func3, Tryd.ntmps3
    go_wp2_with fail
    refine (known_any _).mono ?_
    rintro e w1 ⟨rfl, b1⟩
    have B1 := Lib.hid b1
    clear b1
    go_wp2_with fail
    refine (known_any _).mono ?_
    rintro e w2 ⟨rfl, b2⟩
    have B2 := Lib.hid (B1.out.trans (b2.mono B1.out.size))
    clear b2
    go_wp2_with fail
    go_ret
    exact ⟨rfl, B2.out⟩
  · have hd : decide ((600 : Int) < (s.size : Int)) = false := decide_eq_false (by omega)
    go_enter Tryd.func3, Tryd.ntmps3
    go_wp2_with fail
    refine (known_any _).mono ?_
    rintro e w1 ⟨rfl, b1⟩
    have B1 := Lib.hid b1
    clear b1
    go_wp2_with fail
    refine (Unwrap_any s m w1 (by omega) ((B1.out.cell (p := ⟨0, 0, none⟩) h0.out).trans HM.out)).mono ?_
    rintro e w2 ⟨rfl, b2⟩
    have B2 := Lib.hid (B1.out.trans (b2.mono B1.out.size))
    clear b2
    generalize hR : unwF s = R
    have HR := Lib.hid hR
    clear hR
    obtain ⟨t, a, n⟩ := R
    go_wp2_with fail
    refine (RUnwrap_any s w2 (by omega)).mono ?_
    rintro e w3 ⟨rfl, b3⟩
    have B3 := Lib.hid (B2.out.trans (b3.mono B2.out.size))
    clear b3
    rw [HR.out]
    go_wp2_with fail
    go_ret
    exact ⟨rfl, B3.out⟩

end Go.Proofs.YtpooaondhpfkmaaDoor
