/- The reference's reader of a code: l20Open, pick, odd. -/
import Derived.Test.YtlnldnenkajcdaaMe
import Derived.Deep.Light
set_option linter.unusedVariables false
set_option linter.unusedSimpArgs false
namespace Go.Proofs.Ytlnldnenkajcdaa
open Go.RowKit

/-- Block R is a reader at position p: its bytes lie below R. -/
def IsRd (w : World) (R p : Nat) : Prop := ∃ (A : Option Addr) (c : Nat) (zs : List Int), zs.length ≤ 2000 ∧ (∀ z ∈ zs, 0 ≤ z ∧ z ≤ 255) ∧
  w.heap[R]? = some (.cells #[.slice A zs.length c, .int .i64 p] 82 (0, 0)) ∧ Row w R A (zs.map (Value.int .u8))
def PickPost (R p : Nat) (n : Int) (w : World) (e : Ending) (w' : World) : Prop :=
  ∃ v : Int, 0 ≤ v ∧ (1 ≤ n → v < n) ∧ e = .returned (.int .i64 v) ∧ IsRd w' R (p + 1) ∧ Beside R w w' ∧ w'.heap.size = w.heap.size

theorem xor_nonneg (a b : Int) (ha : 0 ≤ a) (ha' : a < 4611686018427387904) (hb : 0 ≤ b) (hb' : b < 4611686018427387904) : 0 ≤ bits .xor .i64 a b := by
  obtain ⟨x, rfl⟩ := Int.eq_ofNat_of_zero_le ha
  obtain ⟨y, rfl⟩ := Int.eq_ofNat_of_zero_le hb
  have hx : (BitVec.ofInt 64 (x : Int)).toNat = x := by rw [BitVec.ofInt_natCast, BitVec.toNat_ofNat]; exact Nat.mod_eq_of_lt (by omega)
  have hy : (BitVec.ofInt 64 (y : Int)).toNat = y := by rw [BitVec.ofInt_natCast, BitVec.toNat_ofNat]; exact Nat.mod_eq_of_lt (by omega)
  have hxy : x ^^^ y < 2 ^ 62 := Nat.xor_lt_two_pow (by omega) (by omega)
  show 0 ≤ IntKind.i64.wrap ((BitVec.ofInt 64 (x : Int) ^^^ BitVec.ofInt 64 (y : Int)).toNat : Int)
  rw [BitVec.toNat_xor, hx, hy, IntKind.wrap_i64]
  omega

theorem Row.byte {w : World} {B : Nat} {A : Option Addr} {zs : List Int} (h : Row w B A (zs.map (Value.int .u8))) (hz : ∀ z ∈ zs, 0 ≤ z ∧ z ≤ 255) {b o : Nat} (hA : A = some ⟨b, o, none⟩) {j : Nat} (hj : j < zs.length) :
    ∃ z : Int, 0 ≤ z ∧ z ≤ 255 ∧ w.cell? ⟨b, o + j, none⟩ = some (.int .u8 z) :=
  ⟨zs[j], (hz _ (List.getElem_mem hj)).1, (hz _ (List.getElem_mem hj)).2, h.int hA hj⟩

theorem pick_any (R p : Nat) (n : Int) (w : World) (h : IsRd w R p) (hp : p ≤ 1000000) (hn : n ≤ 1000000) :
    Calls Try.prog 49 #[.pointer (some ⟨R, 0, none⟩), .int .i64 n] w (PickPost R p n w) := by
  obtain ⟨A, c, zs, hl, hz, hh, hrow⟩ := h
  have c0 : w.cell? ⟨R, 0, none⟩ = some (.slice A zs.length c) := cell_of_row w R 0 _ _ _ hh
  have c1 : w.cell? ⟨R, 1, none⟩ = some (.int .i64 p) := cell_of_row w R 1 _ _ _ hh
  have f1 : w.frozen? ⟨R, 1, none⟩ = false := by simp [World.frozen?, hh]
  have step : ∀ m : Nat, IsRd ((w.setCell ⟨R, 1, none⟩ (.int .i64 ((p : Int) + 1))).drewN m) R (p + 1) ∧ Beside R w ((w.setCell ⟨R, 1, none⟩ (.int .i64 ((p : Int) + 1))).drewN m) ∧ ((w.setCell ⟨R, 1, none⟩ (.int .i64 ((p : Int) + 1))).drewN m).heap.size = w.heap.size := by
    intro m
    refine ⟨⟨A, c, zs, hl, hz, ?_, (hrow.setCell (p := ⟨R, 1, none⟩) (Nat.le_refl _) _).drewN m⟩, ((Beside.refl R w).set (.inl rfl) _).drewN m, by simp [World.setCell, World.drewN]⟩
    show (w.setCell ⟨R, 1, none⟩ (.int .i64 ((p : Int) + 1))).heap[R]? = _
    simp [World.setCell, Array.getElem?_modify, hh]
  have HS := Lib.hid step
  clear step
  by_cases hn1 : n < 1
  · go_enter Try.func49, Try.ntmps49
    go_wp2
    go_ret
    exact ⟨0, Int.le_refl _, fun h => by omega, rfl, HS.out 0⟩
  · by_cases h0 : zs.length = 0
    · have hz0 : ((zs.length : Int) == 0) = true := by simp [h0]
      clear h0
      go_enter Try.func49, Try.ntmps49
      go_wp2
      go_ret
      exact ⟨0, Int.le_refl _, fun h => by omega, rfl, HS.out 0⟩
    · have hz0 : ((zs.length : Int) == 0) = false := by simp [h0]
      have hpos : 0 < zs.length := by omega
      obtain ⟨b, o, rfl, hbR, hall⟩ := hrow.addr (by simpa using hpos)
      clear hall
      clear h0
      by_cases hk : p < zs.length
      · obtain ⟨z, hz1, hz2, hcp⟩ := hrow.byte hz rfl hk
        go_enter Try.func49, Try.ntmps49
        go_wp2
        go_ret
        exact ⟨z % n, Int.emod_nonneg _ (by omega), fun h => Int.emod_lt_of_pos _ (by omega), rfl, HS.out 0⟩
      · have hm1 : p % zs.length < zs.length := Nat.mod_lt _ hpos
        have hm2 : (p * 7 + 3) % zs.length < zs.length := Nat.mod_lt _ hpos
        obtain ⟨x, hx1, hx2, hc1⟩ := hrow.byte hz rfl hm1
        obtain ⟨y, hy1, hy2, hc2⟩ := hrow.byte hz rfl hm2
        clear hrow hz
        clear hh
        generalize zs.length = L at *
        have i1 : 0 ≤ ((p : Int) * 7 + 3) % (L : Int) := Int.emod_nonneg _ (by omega)
        have i2 : ((p : Int) * 7 + 3) % (L : Int) < (L : Int) := Int.emod_lt_of_pos _ (by omega)
        have i3 : (((p : Int) * 7 + 3) % (L : Int)).toNat = (p * 7 + 3) % L := by
          have : ((p : Int) * 7 + 3) % (L : Int) = (((p * 7 + 3) % L : Nat) : Int) := rfl
          rw [this, Int.toNat_natCast]

        have e4 : (p : Int) / (L : Int) ≤ 1000000 := by
          have : p / L ≤ p := Nat.div_le_self _ _
          have : (p : Int) / (L : Int) = ((p / L : Nat) : Int) := rfl
          omega
        have e5 : 0 ≤ (p : Int) / (L : Int) := Int.ediv_nonneg (by omega) (by omega)
        have j1 : 0 ≤ (p : Int) % (L : Int) := Int.emod_nonneg _ (by omega)
        have j2 : (p : Int) % (L : Int) < (L : Int) := Int.emod_lt_of_pos _ (by omega)
        have j3 : ((p : Int) % (L : Int)).toNat = p % L := by
          have : (p : Int) % (L : Int) = ((p % L : Nat) : Int) := rfl
          rw [this, Int.toNat_natCast]

        clear i3 j3 hm1 hm2
        go_enter Try.func49, Try.ntmps49
        go_wp2
        go_quiet (fail)
        go_wp2
        have hX := xor_nonneg (x * 131 + y * 1117 + p * 29 + p / L * 53) ((x * 131 + y * 1117 + p * 29 + p / L * 53) / 64) (by omega) (by omega) (by omega) (by omega)
        have HX := Lib.hid hX
        clear hX
        go_ret
        refine ⟨(bits BinOp.xor IntKind.i64 (x * 131 + y * 1117 + p * 29 + p / L * 53) ((x * 131 + y * 1117 + p * 29 + p / L * 53) / 64)).tmod n, ?_, fun h => ?_, rfl, HS.out _⟩
        · exact Int.tmod_nonneg _ HX.out
        · exact Int.tmod_lt_of_pos _ (by omega)
end Go.Proofs.Ytlnldnenkajcdaa
