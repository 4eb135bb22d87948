/- The laws' helpers on slices of texts: szStringS, toStringS, eqStringS, sameTexts. -/
import Derived.Test.YtlnldnenkajcdaaDoorMe
import Derived.OwnWalk
set_option linter.unusedVariables false
set_option linter.unusedSimpArgs false
namespace Go.Proofs.YtlnldnenkajcdaaDoor
open Go.RowKit
def strVals (ss : List ByteArray) : List Value := ss.map Value.string
theorem Row.str {w : World} {B : Nat} {A : Option Addr} {ss : List ByteArray} (h : Row w B A (strVals ss)) {j : Nat} (hj : j < ss.length) : ∃ b o, A = some ⟨b, o, none⟩ ∧ b < B ∧ w.cell? ⟨b, o + j, none⟩ = some (.string ss[j]) :=
  h j (.string ss[j]) (by simp [strVals, hj])
theorem infoStr : (Tryd.prog.info? 9).map (fun i => (i.zero, i.size, i.bytes)) = some (some (.string .empty), 1, 16) := by kernel_rfl

theorem mk_row {P : Program} {t e : TypeId} {i : TypeInfo} {z : Value} (ht : P.underlying t = some (.slice e)) (hi : P.info? e = some i) (hz : i.zero = some z) (hs : i.size = 1) (n : Nat) (hb : i.bytes * n ≤ 281474976710656) (hn : n ≤ 9223372036854775807) (W : World) :
    (Instr.makeSlice t (.int .i64 (n : Int)) (.int .i64 (n : Int))).run P W = .ok (.slice (some ⟨W.heap.size, 0, none⟩) n n) (W.alloc (.cells (madeCells z.cells n) e)) := by
  have hb' : (i.bytes : Int) * (n : Int) ≤ 281474976710656 := by
    have h : ((i.bytes * n : Nat) : Int) ≤ 281474976710656 := by omega
    rwa [Int.natCast_mul] at h
  have hr := run_make (P := P) W t e i z ht hi hz .i64 .i64 n n (by omega) (by omega) hb' (by omega)
  simp only [Int.toNat_natCast, hs, Nat.mul_one] at hr
  exact hr
theorem eqStringS_same (A C : Option Addr) (n m c d : Nat) (ss : List ByteArray) (w : World) (h1 : Row w w.heap.size A (strVals ss)) (h2 : Row w w.heap.size C (strVals ss)) (hn : ss.length = n) (hm : ss.length = m) (hmax : n ≤ 3000000) :
    Calls Tryd.prog 9 #[.slice A n c, .slice C m d] w fun e w' => e = .returned (.bool true) ∧ ∃ q, w' = w.drewN q := by
  obtain rfl : n = m := by omega
  go_enter Tryd.func9, Tryd.ntmps9
  go_wp2_with fail
  go_loopw [5] (fun i wr => ∃ k : Nat, k ≤ n ∧ i = .int .i64 k ∧ ∃ q, wr = w.drewN q) (fun i _ => n - (intOf i).toNat)
  case atStart => exact ⟨0, Nat.zero_le _, rfl, 0, rfl⟩
  case round =>
    obtain ⟨k, hk, rfl, q, rfl⟩ := hrel
    by_cases hkn : k < n
    · have hkl : k < ss.length := by omega
      obtain ⟨b, o, rfl, hb, hc1⟩ := h1.str (j := k) hkl
      obtain ⟨b', o', rfl, hb', hc2⟩ := h2.str (j := k) hkl
      generalize ss[k]'hkl = x at hc1 hc2
      have hk' : (k : Int) < (n : Int) := by omega
      have hk0 : (0 : Int) ≤ (k : Int) := by omega
      go_wp2_with fail
      go_quiet (fail)
      go_wp2_with fail
      go_roundw
      case rel => exact ⟨k + 1, by omega, by go_num, _, rfl⟩
      case measure => (simp [intOf] <;> omega)
    · go_wp2_with fail
      go_ret
      exact ⟨rfl, q, rfl⟩
end Go.Proofs.YtlnldnenkajcdaaDoor
