/- The laws' helpers on slices of texts: szStringS, toStringS, eqStringS, sameTexts. -/
import Derived.Test.YtibkcocaipbffaaMe
import Derived.OwnWalk
namespace Go.Proofs.Ytibkcocaipbffaa
open Go.RowKit
def strVals (ss : List ByteArray) : List Value := ss.map Value.string
theorem Row.str {w : World} {B : Nat} {A : Option Addr} {ss : List ByteArray} (h : Row w B A (strVals ss)) {j : Nat} (hj : j < ss.length) : ∃ b o, A = some ⟨b, o, none⟩ ∧ b < B ∧ w.cell? ⟨b, o + j, none⟩ = some (.string ss[j]) :=
  h j (.string ss[j]) (by simp [strVals, hj])
theorem infoStr : (Try.prog.info? 9).map (fun i => (i.zero, i.size, i.bytes)) = some (some (.string .empty), 1, 16) := by kernel_rfl

def SzPost (ss : List ByteArray) (left : Int) (w : World) (e : Ending) (w' : World) : Prop :=
  ∃ r : Int, e = .returned (.int .i64 r) ∧ (0 ≤ r → (ss.length : Int) ≤ left ∧ ∀ s ∈ ss, (s.size : Int) ≤ left) ∧ w = w'
theorem szStringS_any (A : Option Addr) (n c : Nat) (ss : List ByteArray) (left : Int) (w : World) (h : Row w w.heap.size A (strVals ss)) (hl : ss.length = n) (hn : n ≤ maxLen) (hz : ∀ s ∈ ss, s.size ≤ maxLen) (h0 : 0 ≤ left) (h1 : left ≤ 3000000) :
    Calls Try.prog 23 #[.slice A n c, .int .i64 left] w (SzPost ss left w) := by
  unfold maxLen at hn
  by_cases hln : left - n < 0
  · go_enter Try.func23, Try.ntmps23
    go_wp2_with fail
    go_ret
    exact ⟨-1, rfl, fun h => by omega, rfl⟩
  · have hd : decide (left - (n : Int) < 0) = false := by simp; omega
    go_enter Try.func23, Try.ntmps23
    go_wp2_with fail
    go_loopw [1, 5] (fun lv i wr => ∃ (k : Nat) (l : Int), k ≤ n ∧ i = .int .i64 k ∧ lv = .int .i64 l ∧ 0 ≤ l ∧ l ≤ left ∧ (∀ j (hj : j < ss.length), j < k → (ss[j].size : Int) ≤ left) ∧ wr = w) (fun _ i _ => n - (intOf i).toNat)
    case atStart => exact ⟨0, _, Nat.zero_le _, rfl, rfl, by omega, by omega, fun j hj h => by omega, rfl⟩
    case round =>
      obtain ⟨k, l, hk, rfl, rfl, hl0, hl1, hall, rfl⟩ := hrel
      have HA := Lib.hid hall
      clear hall
      by_cases hkn : k < n
      · have hkl : k < ss.length := by omega
        obtain ⟨b, o, rfl, hb, hc⟩ := h.str (j := k) hkl
        have hsz := hz _ (List.getElem_mem hkl)
        have hx : ∀ j (hj : j < ss.length), j < k + 1 → (ss[k].size : Int) ≤ left → (ss[j].size : Int) ≤ left := by
          intro j hj hjk hle
          rcases Nat.lt_or_ge j k with h2 | h2
          · exact HA.out j hj h2
          · obtain rfl : j = k := by omega
            exact hle
        have HX := Lib.hid hx
        clear hx
        unfold maxLen at hsz
        generalize ss[k]'hkl = x at hc hsz HX
        have hk' : (k : Int) < (n : Int) := by omega
        have hk0 : (0 : Int) ≤ (k : Int) := by omega
        by_cases hneg : l - x.size < 0
        · go_wp2_with fail
          go_ret
          exact ⟨-1, rfl, fun h => by omega, rfl⟩
        · go_wp2_with fail
          go_roundw
          case rel => exact ⟨k + 1, _, by omega, by go_num, rfl, by omega, by omega, fun j hj hjk => HX.out j hj hjk (by omega), by first | trivial | rfl⟩
          case measure => (simp [intOf] <;> omega)
      · go_wp2_with fail
        go_ret
        refine ⟨l, rfl, fun _ => ⟨by omega, fun s hs => ?_⟩, rfl⟩
        obtain ⟨j, hj, rfl⟩ := List.getElem_of_mem hs
        exact HA.out j hj (by omega)
theorem eqStringS_same (A C : Option Addr) (n m c d : Nat) (ss : List ByteArray) (w : World) (h1 : Row w w.heap.size A (strVals ss)) (h2 : Row w w.heap.size C (strVals ss)) (hn : ss.length = n) (hm : ss.length = m) (hmax : n ≤ 3000000) :
    Calls Try.prog 27 #[.slice A n c, .slice C m d] w fun e w' => e = .returned (.bool true) ∧ ∃ q, w' = w.drewN q := by
  obtain rfl : n = m := by omega
  go_enter Try.func27, Try.ntmps27
  go_wp2_with fail
  go_loopw [5] (fun i wr => ∃ k : Nat, k ≤ n ∧ i = .int .i64 k ∧ ∃ q, wr = w.drewN q) (fun i _ => n - (intOf i).toNat)
  case atStart => exact ⟨0, Nat.zero_le _, rfl, 0, rfl⟩
  case round =>
    obtain ⟨k, hk, rfl, q, rfl⟩ := hrel
    by_cases hkn : k < n
    · have hkl : k < ss.length := by omega
      obtain ⟨b, o, rfl, hb, hc1⟩ := h1.str (j := k) hkl
      obtain ⟨b', o', rfl, hb', hc2⟩ := h2.str (j := k) hkl
      generalize ss[k]'hkl = x at hc1 hc2
      have hk' : (k : Int) < (n : Int) := by omega
      have hk0 : (0 : Int) ≤ (k : Int) := by omega
      go_wp2_with fail
      go_quiet (fail)
      go_wp2_with fail
      go_roundw
      case rel => exact ⟨k + 1, by omega, by go_num, _, rfl⟩
      case measure => (simp [intOf] <;> omega)
    · go_wp2_with fail
      go_ret
      exact ⟨rfl, q, rfl⟩
/-- A new slice of texts is returned; nothing that was there has turned. -/
def StrsPost (ss : List ByteArray) (w : World) (e : Ending) (w' : World) : Prop :=
  ∃ (A : Option Addr) (c : Nat), e = .returned (.slice A ss.length c) ∧ w'.ownsRow w.heap.size 9 1 (.slice A ss.length c) ss.length (strVals ss) ∧ Below w.heap.size w w'
theorem mk_row {P : Program} {t e : TypeId} {i : TypeInfo} {z : Value} (ht : P.underlying t = some (.slice e)) (hi : P.info? e = some i) (hz : i.zero = some z) (hs : i.size = 1) (n : Nat) (hb : i.bytes * n ≤ 281474976710656) (hn : n ≤ 9223372036854775807) (W : World) :
    (Instr.makeSlice t (.int .i64 (n : Int)) (.int .i64 (n : Int))).run P W = .ok (.slice (some ⟨W.heap.size, 0, none⟩) n n) (W.alloc (.cells (madeCells z.cells n) e)) := by
  have hb' : (i.bytes : Int) * (n : Int) ≤ 281474976710656 := by
    have h : ((i.bytes * n : Nat) : Int) ≤ 281474976710656 := by omega
    rwa [Int.natCast_mul] at h
  have hr := run_make (P := P) W t e i z ht hi hz .i64 .i64 n n (by omega) (by omega) hb' (by omega)
  simp only [Int.toNat_natCast, hs, Nat.mul_one] at hr
  exact hr
theorem copy_rel {α : Type} {f : α → Value} {n B g T k : Nat} {ss : List α} {ys : List Value} {wr : World} {u : Value}
    (hs : (wr.setCell ⟨g, k, none⟩ u).ownsRow B T 1 (.slice (some ⟨g, 0, none⟩) n n) n (ys.set k u) ∧ wr.grownBy (wr.setCell ⟨g, k, none⟩ u) (some g))
    (hy : ∀ j, j < k → ys[j]? = (ss.map f)[j]?) (hu : (ss.map f)[k]? = some u) (hyl : ys.length = n) (hk : k < n) :
    ∃ ys' : List Value, (wr.setCell ⟨g, k, none⟩ u).ownsRow B T 1 (.slice (some ⟨g, 0, none⟩) n n) n ys' ∧ (∀ j, j < k + 1 → ys'[j]? = (ss.map f)[j]?) := by
  refine ⟨_, hs.1, fun j hj => ?_⟩
  rcases Nat.lt_or_ge j k with h | h
  · rw [List.getElem?_set_ne (by omega)]; exact hy j h
  · obtain rfl : j = k := by omega
    rw [List.getElem?_set_self (by omega), hu]
theorem toStringS_any (A : Option Addr) (n c : Nat) (ss : List ByteArray) (w : World) (h : Row w w.heap.size A (strVals ss)) (hl : ss.length = n) (hn : n ≤ 3000000) :
    Calls Try.prog 25 #[.slice A n c] w (StrsPost ss w) := by
  obtain ⟨i0, hi, hz0, hz1, hz2⟩ := info_parts infoStr
  have hmk := mk_row (P := Try.prog) (z := .string .empty) Try.underlying27 hi hz0 hz1 n (by rw [hz2]; omega) (by omega)
  obtain ⟨B, hB⟩ : ∃ B, w.heap.size = B := ⟨_, rfl⟩
  have HB := Lib.hid hB
  have hown0 := World.ownsRow_lit (base := w.heap.size) (e := 9) (size := 1) w (madeCells #[Value.string .empty] n) n (Nat.le_refl _) (by unfold maxLen; omega) (by rw [size_madeCells]; omega)
  have hb0 := (Below.refl w.heap.size w).alloc (Nat.le_refl _) (.cells (madeCells #[Value.string .empty] n) 9)
  rw [hB] at hown0 hb0 h
  clear hB
  go_enter Try.func25, Try.ntmps25
  go_wp2_with fail
  rw [HB.out]
  generalize w.alloc (.cells (madeCells #[Value.string .empty] n) 9) = W1 at hown0 hb0 ⊢
  clear hmk
  go_loopw [4] (fun i wr => ∃ (k : Nat) (ys : List Value), k ≤ n ∧ i = .int .i64 k ∧ wr.ownsRow B 9 1 (.slice (some ⟨B, 0, none⟩) n n) n ys ∧ (∀ j, j < k → ys[j]? = (strVals ss)[j]?) ∧ Below B w wr) (fun i _ => n - (intOf i).toNat)
  case atStart => exact ⟨0, _, Nat.zero_le _, rfl, hown0, fun j hj => by omega, hb0⟩
  case round =>
    obtain ⟨k, ys, hk, rfl, hown, hys, hb⟩ := hrel
    have hyl : ys.length = n := by have := hown.1; omega
    have HY := Lib.hid hys
    clear hys hown0 hb0
    by_cases hkn : k < n
    · have hkl : k < ss.length := by omega
      obtain ⟨b, o, rfl, hbb, hc⟩ := (h.below hb).str (j := k) hkl
      have hu : (strVals ss)[k]? = some (.string (ss[k]'hkl)) := by simp [strVals, hkl]
      generalize ss[k]'hkl = x at hc hu
      obtain ⟨y, hcell⟩ : ∃ y, wr.cell? ⟨B, k, none⟩ = some y := ⟨_, (hown.cellAt k (by omega)).trans (List.getElem?_eq_getElem (show k < ys.length by omega))⟩
      have hfz := hown.frozenAt k
      have hst := hown.stored k (.string x)
      have HC := Lib.hid (copy_rel hst HY.out hu hyl hkn)
      have hk' : (k : Int) < (n : Int) := by omega
      have hk0 : (0 : Int) ≤ (k : Int) := by omega
      have hbs := hb.setCell (p := ⟨B, k, none⟩) (Nat.le_refl _) (.string x)
      clear hst hu
      go_wp2_with fail
      go_roundw
      case rel =>
        obtain ⟨ys', g1, g2⟩ := HC.out
        exact ⟨k + 1, ys', by omega, by go_num, g1, g2, hbs⟩
      case measure => (simp [intOf] <;> omega)
    · obtain rfl : k = n := by omega
      have he : ys = strVals ss := by
        apply List.ext_getElem?
        intro j
        rcases Nat.lt_or_ge j k with hj | hj
        · exact HY.out j hj
        · rw [List.getElem?_eq_none (by omega), List.getElem?_eq_none (by simp [strVals]; omega)]
      rw [he] at hown
      have HO := Lib.hid hown
      have HL := Lib.hid hl
      clear hown he hyl hl
      go_wp2_with fail
      go_ret
      exact ⟨some ⟨B, 0, none⟩, k, by rw [HL.out]; rfl, by rw [HL.out, HB.out]; exact HO.out, by rw [HB.out]; exact hb⟩
end Go.Proofs.Ytibkcocaipbffaa
