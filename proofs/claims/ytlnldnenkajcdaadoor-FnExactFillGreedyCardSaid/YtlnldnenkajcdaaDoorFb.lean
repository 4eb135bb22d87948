/- The reference's l14Size, l14Text and FillGreedy. -/
import Derived.Test.YtlnldnenkajcdaaDoorFa
set_option linter.unusedVariables false
set_option linter.unusedSimpArgs false
namespace Go.Proofs.YtlnldnenkajcdaaDoor
open Go.RowKit
def szN (ws : List ByteArray) (k : Nat) : Nat → Nat
  | 0 => 0
  | m + 1 => szN ws k m + (ws.getD (k + m) ⟨#[]⟩).size
def txN (ws : List ByteArray) (k : Nat) : Nat → ByteArray
  | 0 => ⟨#[]⟩
  | m + 1 => (if m = 0 then txN ws k m else txN ws k m ++ ⟨#[32]⟩) ++ ws.getD (k + m) ⟨#[]⟩
theorem getD_small {ws : List ByteArray} {b : Nat} (h : ∀ x ∈ ws, x.size ≤ b) (j : Nat) : (ws.getD j ⟨#[]⟩).size ≤ b := by
  rw [List.getD_eq_getElem?_getD]
  cases hj : ws[j]? with
  | none => exact Nat.zero_le _
  | some x => exact h x (List.mem_of_getElem? hj)
theorem szN_le {ws : List ByteArray} {b : Nat} (h : ∀ x ∈ ws, x.size ≤ b) (k : Nat) : ∀ m, szN ws k m ≤ b * m
  | 0 => Nat.zero_le _
  | m + 1 => by
    have := szN_le h k m
    have := getD_small h (k + m)
    simp only [szN, Nat.mul_add, Nat.mul_one]; omega
theorem txN_le {ws : List ByteArray} {b : Nat} (h : ∀ x ∈ ws, x.size ≤ b) (k : Nat) : ∀ m, (txN ws k m).size ≤ (b + 1) * m
  | 0 => Nat.zero_le _
  | m + 1 => by
    have h1 := txN_le h k m
    have h2 := getD_small h (k + m)
    simp only [txN, ByteArray.size_append, Nat.mul_add, Nat.mul_one]
    split
    · omega
    · rw [ByteArray.size_append]
      have : (⟨#[32]⟩ : ByteArray).size = 1 := rfl
      omega
theorem getD_at {ws : List ByteArray} {j : Nat} (hj : j < ws.length) : ws.getD j ⟨#[]⟩ = ws[j] := by
  rw [List.getD_eq_getElem?_getD, List.getElem?_eq_getElem hj]; rfl
theorem sSz_any (A : Option Addr) (n c : Nat) (ws : List ByteArray) (a b : Nat) (w : World) (h : Row w w.heap.size A (strVals ws)) (hl : ws.length = n) (hn : n ≤ 121) (hz : ∀ x ∈ ws, x.size ≤ 121) (hab : a ≤ b) (hb : b ≤ n) :
    Calls Tryd.prog 24 #[.slice A n c, .int .i64 a, .int .i64 b] w fun e w' => e = .returned (.int .i64 ((b : Int) - a - 1 + szN ws a (b - a))) ∧ w = w' := by
  subst hl
  have HS := Lib.hid fun m => szN_le hz a m
  have HZ := Lib.hid fun j => getD_small hz j
  have HG := Lib.hid fun j (hj : j < ws.length) => getD_at hj
  go_enter Tryd.func24, Tryd.ntmps24
  go_wp2_with fail
  go_loopw [7, 8] (fun nv kv wr => ∃ k : Nat, k ≤ b - a ∧ kv = .int .i64 ((a : Int) + k) ∧ nv = .int .i64 ((b : Int) - a - 1 + szN ws a k) ∧ wr = w) (fun _ kv _ => b - (intOf kv).toNat)
  case atStart => exact ⟨0, Nat.zero_le _, by congr 1 <;> omega, by simp [szN], rfl⟩
  case round =>
    obtain ⟨k, hk, rfl, rfl, rfl⟩ := hrel
    have hs1 := HS.out k
    have hs2 : szN ws a k ≤ 15000 := by have : 121 * k ≤ 121 * 121 := Nat.mul_le_mul_left _ (by omega); omega
    by_cases hkb : a + k < b
    · have hkl : a + k < ws.length := by omega
      obtain ⟨g, o, rfl, hbb, c0⟩ := h.str hkl
      have hg := HG.out (a + k) hkl
      have hx := HZ.out (a + k)
      rw [hg] at hx
      have HN : Hid (szN ws a (k + 1) = szN ws a k + (ws[a + k]).size) := Lib.hid (by simp only [szN]; rw [hg])
      have hk0 : (0 : Int) ≤ (a : Int) + (k : Int) := by omega
      have hk1 : (a : Int) + (k : Int) < (b : Int) := by omega
      have hk2 : (a : Int) + (k : Int) < (ws.length : Int) := by omega
      have c1 := c0
      have e9 : ((a : Int) + (k : Int)).toNat = a + k := by omega
      clear hs1 hg
      generalize ws[a + k]'hkl = x at *
      generalize szN ws a k = z at *
      go_wp2_with fail
      go_roundw
      case rel => exact ⟨k + 1, by omega, by congr 1 <;> omega, by rw [HN.out]; congr 1; omega, by first | trivial | rfl⟩
      case measure => (simp [intOf] <;> omega)
    · obtain rfl : k = b - a := by omega
      have hk1 : (b : Int) ≤ (a : Int) + ((b - a : Nat) : Int) := by omega
      clear hs1
      go_wp2_with fail
      go_ret
      exact ⟨rfl, rfl⟩
theorem sTx_any (A : Option Addr) (n c : Nat) (ws : List ByteArray) (a b : Nat) (w : World) (h : Row w w.heap.size A (strVals ws)) (hl : ws.length = n) (hn : n ≤ 121) (hz : ∀ x ∈ ws, x.size ≤ 121) (hab : a ≤ b) (hb : b ≤ n) :
    Calls Tryd.prog 25 #[.slice A n c, .int .i64 a, .int .i64 b] w fun e w' => e = .returned (.string (txN ws a (b - a))) ∧ w = w' := by
  subst hl
  have HS := Lib.hid fun m => txN_le hz a m
  have HZ := Lib.hid fun j => getD_small hz j
  have HG := Lib.hid fun j (hj : j < ws.length) => getD_at hj
  go_enter Tryd.func25, Tryd.ntmps25
  go_wp2_with fail
  go_loopw [7, 8] (fun ov kv wr => ∃ k : Nat, k ≤ b - a ∧ kv = .int .i64 ((a : Int) + k) ∧ ov = .string (txN ws a k) ∧ wr = w) (fun _ kv _ => b - (intOf kv).toNat)
  case atStart => exact ⟨0, Nat.zero_le _, by congr 1 <;> omega, rfl, rfl⟩
  case round =>
    obtain ⟨k, hk, rfl, rfl, rfl⟩ := hrel
    have hs1 := HS.out k
    have hs2 : (txN ws a k).size ≤ 15000 := by have : (121 + 1) * k ≤ 122 * 121 := Nat.mul_le_mul_left _ (by omega); omega
    by_cases hkb : a + k < b
    · have hkl : a + k < ws.length := by omega
      obtain ⟨g, o, rfl, hbb, c0⟩ := h.str hkl
      have hg := HG.out (a + k) hkl
      have hx := HZ.out (a + k)
      rw [hg] at hx
      have hk0 : (0 : Int) ≤ (a : Int) + (k : Int) := by omega
      have hk1 : (a : Int) + (k : Int) < (b : Int) := by omega
      have hk2 : (a : Int) + (k : Int) < (ws.length : Int) := by omega
      have e9 : ((a : Int) + (k : Int)).toNat = a + k := by omega
      by_cases h0 : k = 0
      · have HN : Hid (txN ws a (k + 1) = txN ws a k ++ ws[a + k]) := Lib.hid (by simp only [txN]; rw [hg, if_pos h0])
        have hle : (a : Int) + (k : Int) ≤ (a : Int) := by omega
        clear hs1 hg h0
        generalize ws[a + k]'hkl = x at *
        generalize txN ws a k = z at *
        go_wp2_with fail
        go_roundw
        case rel => exact ⟨k + 1, by omega, by congr 1 <;> omega, by rw [HN.out], by first | trivial | rfl⟩
        case measure => (simp [intOf] <;> omega)
      · have HN : Hid (txN ws a (k + 1) = txN ws a k ++ ⟨#[32]⟩ ++ ws[a + k]) := Lib.hid (by simp only [txN]; rw [hg, if_neg h0])
        have hgt : (a : Int) < (a : Int) + (k : Int) := by omega
        have hsp : (⟨#[32]⟩ : ByteArray).size = 1 := rfl
        clear hs1 hg
        generalize ws[a + k]'hkl = x at *
        generalize txN ws a k = z at *
        go_wp2_with fail
        go_roundw
        case rel => exact ⟨k + 1, by omega, by congr 1 <;> omega, by rw [HN.out], by first | trivial | rfl⟩
        case measure => (simp [intOf] <;> omega)
    · obtain rfl : k = b - a := by omega
      have hk1 : (b : Int) ≤ (a : Int) + ((b - a : Nat) : Int) := by omega
      clear hs1
      go_wp2_with fail
      go_ret
      exact ⟨rfl, rfl⟩
end Go.Proofs.YtlnldnenkajcdaaDoor
