/- Wildmat: the known answers, as plain facts. -/
import Derived.Test.YtgnmanmlnbidfaaDoorSmall
namespace Go.Proofs.YtgnmanmlnbidfaaDoor
open Go.RowKit

def k1 : ByteArray := ⟨#[99, 111, 109, 112, 46, 42]⟩
def k2 : ByteArray := ⟨#[42, 46, 111, 115]⟩
def k3 : ByteArray := ⟨#[97, 91, 98]⟩
def k4 : ByteArray := ⟨#[91, 94, 45, 97, 45, 122, 48, 45, 57, 43, 95, 46, 93]⟩
def k6 : ByteArray := ⟨#[42, 44, 33, 97, 108, 116, 46, 42, 44, 97, 108, 116, 46, 97, 110, 115, 119, 101, 114, 115, 44, 64, 42, 46, 98, 105, 110]⟩
def nOs : ByteArray := ⟨#[99, 111, 109, 112, 46, 111, 115]⟩
def nDot : ByteArray := ⟨#[99, 111, 109, 112, 46]⟩
def nComp : ByteArray := ⟨#[99, 111, 109, 112]⟩
def nX : ByteArray := ⟨#[97, 108, 116, 46, 120]⟩
def nAns : ByteArray := ⟨#[97, 108, 116, 46, 97, 110, 115, 119, 101, 114, 115]⟩
def nBin : ByteArray := ⟨#[97, 108, 116, 46, 98, 105, 110]⟩

theorem k1_ok : (compF (chars k1)).2 = (0, 0) := by decide +kernel
theorem k2_ok : (compF (chars k2)).2 = (0, 0) := by decide +kernel
theorem k3_ok : (compF (chars k3)).2 = (1, 3) := by decide +kernel
theorem k4_ok : (compF (chars k4)).2 = (0, 0) := by decide +kernel
theorem k1_os : matchF (compF (chars k1)).1 (chars nOs) = true := by rw [← match_set]; decide +kernel
theorem k1_dot : matchF (compF (chars k1)).1 (chars nDot) = true := by rw [← match_set]; decide +kernel
theorem k1_comp : matchF (compF (chars k1)).1 (chars nComp) = false := by rw [← match_set]; decide +kernel
theorem k4_empty : emptyF (compF (chars k4)).1 = true := by decide +kernel
theorem k6_ok : (parseF k6).2 = (0, 0) := by decide +kernel
theorem k6_os : verdF (parseF k6).1 (chars nOs) = 1 := by unfold verdF; simp only [← match_set]; decide +kernel
theorem k6_x : verdF (parseF k6).1 (chars nX) = 2 := by unfold verdF; simp only [← match_set]; decide +kernel
theorem k6_ans : verdF (parseF k6).1 (chars nAns) = 1 := by unfold verdF; simp only [← match_set]; decide +kernel
theorem k6_bin : verdF (parseF k6).1 (chars nBin) = 3 := by unfold verdF; simp only [← match_set]; decide +kernel
theorem k6_s1 : selGo (fun s => verdF (parseF k6).1 (chars s)) [nX, nOs] false = true := by simp only [selGo, k6_os, k6_x, k6_bin, if_pos, if_neg]; decide
theorem k6_s2 : selGo (fun s => verdF (parseF k6).1 (chars s)) [nOs, nBin] false = false := by simp only [selGo, k6_os, k6_x, k6_bin, if_pos, if_neg]; decide
theorem k12_best : bestF (compF (chars k1)).1 (compF (chars k2)).1 = some (chars nOs) := by decide +kernel
end Go.Proofs.YtgnmanmlnbidfaaDoor
