/- The contracts of RowOf, of the program and of the reference. -/
import Derived.Test.YtglnkcggcgbaiaaDoorWj
import Derived.Test.YtglnkcggcgbaiaaDoorWk
import Derived.Test.YtglnkcggcgbaiaaDoorMq
set_option linter.unusedVariables false
set_option linter.unusedSimpArgs false
namespace Go.Proofs.YtglnkcggcgbaiaaDoor
open Go.RowKit
/-- Does row k begin at place p or before it? -/
def rowG (xs : List (Int × Int)) (p : Int) (k : Nat) : Bool := decide ((xs.getD k (0, 0)).1 ≤ p)
def roI (s : ByteArray) (W p : Int) : Int := if place s p = true then topF (rowG (rowsL s W) p) (rowsL s W).length else -1
theorem rowG_at {xs : List (Int × Int)} {p : Int} {k : Nat} (hk : k < xs.length) : rowG xs p k = decide (xs[k].1 ≤ p) := by
  unfold rowG; rw [List.getD_eq_getElem?_getD, List.getElem?_eq_getElem hk]; rfl
theorem rows_head {s : ByteArray} {W : Int} (h : wOk s W = true) : ∃ h0 : 0 < (rowsL s W).length, ((rowsL s W)[0]).1 = 0 := by
  obtain ⟨hv, n, rfl, h4, h40⟩ := wOk_s h
  have hc := chain_all h
  generalize rowsL s n = xs at *
  match xs, hc with
  | [], hc => have h' : (0 : Nat) = s.size + 1 := hc
              omega
  | (f, t) :: r, hc =>
    obtain ⟨b, hf, _⟩ := hc
    exact ⟨by simp, by simpa using hf⟩
theorem ro_no {s : ByteArray} {W p : Int} (h : place s p = false ∨ wOk s W = false) : roI s W p = -1 := by
  rcases h with h | h
  · unfold roI; rw [if_neg (by simp [h])]
  · have hr : rowsL s W = [] := by unfold rowsL; rw [if_neg (by simp [h])]
    unfold roI; rw [hr]
    split <;> rfl
set_option maxRecDepth 100000 in
theorem iRO_any (s : ByteArray) (W p : Int) (w : World) (hs : s.size ≤ maxLen) (hM : ML w) :
    Calls Tryd.prog 13 #[.string s, .int .i64 W, .int .i64 p] w fun e w' => e = .returned (.int .i64 (roI s W p)) ∧ Below w.heap.size w w' := by
  have hs' := hs
  unfold maxLen at hs'
  cases hp : place s p
  · have HE := Lib.hid (ro_no (W := W) (.inl hp))
    go_enter Tryd.func13, Tryd.ntmps13
    go_wp2_with fail
    refine (iPl_any _ _ _ hs).mono ?_
    rintro e w' ⟨rfl, rfl⟩
    go_wp2_with fail
    go_ret
    exact ⟨ret_int HE.out.symm, Below.refl _ _⟩
  · cases hi : inI W 4 40
    · have HE := Lib.hid (ro_no (s := s) (W := W) (p := p) (.inr (by unfold wOk; rw [hi]; simp)))
      go_enter Tryd.func13, Tryd.ntmps13
      go_wp2_with fail
      refine (iPl_any _ _ _ hs).mono ?_
      rintro e w' ⟨rfl, rfl⟩
      go_wp2_with fail
      refine (iW_any _ _).mono ?_
      rintro e w' ⟨rfl, rfl⟩
      go_wp2_with fail
      go_ret
      exact ⟨ret_int HE.out.symm, Below.refl _ _⟩
    · have hok : wOk s W = true := by unfold wOk; rw [hi, (placeS hp).1]; rfl
      obtain ⟨h0, h00⟩ := rows_head hok
      obtain ⟨m, rfl, hm⟩ := place_nat hp
      have HE : Hid (roI s W m = topF (rowG (rowsL s W) m) (rowsL s W).length) := Lib.hid (by unfold roI; rw [if_pos hp])
      have hlen := rows_small s W
      have hc := iWR_any s W w hs hM
      have hg := fun k (hk : k < (rowsL s W).length) => rowG_at (p := (m : Int)) hk
      have hg0 : rowG (rowsL s W) m 0 = true := by rw [hg 0 h0, h00]; simp
      generalize rowsL s W = xs at *
      have HC := Lib.hid hc
      have HG := Lib.hid hg
      have HG0 := Lib.hid hg0
      clear hc hg hg0 h00 hok
      go_enter Tryd.func13, Tryd.ntmps13
      go_wp2_with fail
      refine (iPl_any _ _ _ hs).mono ?_
      rintro e w' ⟨rfl, rfl⟩
      go_wp2_with fail
      refine (iW_any _ _).mono ?_
      rintro e w' ⟨rfl, rfl⟩
      go_wp2_with fail
      refine (HC.out).mono ?_
      rintro e W1 ⟨A, c, rfl, ho, hb⟩
      have hr := Row.of_own2 ho
      clear ho
      go_wp2_with fail
      go_loopw [7, 23] (fun rv iv wr => ∃ (k : Nat) (r : Int), iv = .int .i64 k ∧ k ≤ xs.length ∧ rv = .int .i64 r ∧ (k = 0 → r = 0) ∧ (0 < k → r = topF (rowG xs m) k) ∧ Below W1.heap.size W1 wr) (fun _ iv _ => xs.length - (intOf iv).toNat)
      case atStart => exact ⟨0, 0, rfl, Nat.zero_le _, rfl, fun _ => rfl, fun h => by omega, Below.refl _ _⟩
      case round =>
        obtain ⟨k, r, rfl, hk, rfl, hr0, hr1, hbw⟩ := hrel
        have HR0 := Lib.hid hr0
        have HR1 := Lib.hid hr1
        clear hr0 hr1
        by_cases hkx : k < xs.length
        · obtain ⟨b, o, rfl, hbb, c0, c1⟩ := (hr.below hbw).pair hkx
          have hgk := HG.out k hkx
          have hk' : (k : Int) < (xs.length : Int) := by omega
          have hk0 : (0 : Int) ≤ (k : Int) := by omega
          have hba := hbw.alloc hbw.size (.cells #[.int .i64 (xs[k]'hkx).1, .int .i64 (xs[k]'hkx).2] 41)
          generalize (xs[k]'hkx).1 = x at *
          generalize (xs[k]'hkx).2 = y at *
          have HB := Lib.hid hba
          have HGK := Lib.hid hgk
          clear hba hgk hbw
          by_cases hx : x ≤ (m : Int)
          · go_wp2_with fail
            go_roundw
            case rel => exact ⟨k + 1, k, by go_num, by omega, rfl, fun h => by omega, fun _ => by rw [topF_hit (by rw [HGK.out]; exact decide_eq_true hx)], HB.out⟩
            case measure => (simp [intOf] <;> omega)
          · have hkp : 0 < k := by
              rcases Nat.eq_zero_or_pos k with h | h
              · exfalso
                subst h
                have h1 := HGK.out
                rw [HG0.out] at h1
                have h2 := of_decide_eq_true h1.symm
                exact hx h2
              · exact h
            go_wp2_with fail
            go_roundw
            case rel => exact ⟨k + 1, r, by go_num, by omega, rfl, fun h => by omega, fun _ => by rw [topF_miss (by rw [HGK.out]; exact decide_eq_false (by omega))]; exact HR1.out hkp, HB.out⟩
            case measure => (simp [intOf] <;> omega)
        · obtain rfl : k = xs.length := by omega
          have HF := Lib.hid (hb.trans (hbw.mono hb.size))
          clear hbw
          go_wp2_with fail
          go_ret
          exact ⟨ret_int (by rw [HE.out]; exact HR1.out h0), HF.out⟩
set_option maxRecDepth 100000 in
theorem sRO_any (s : ByteArray) (W p : Int) (w : World) (hs : s.size ≤ maxLen) :
    Calls Tryd.prog 12 #[.string s, .int .i64 W, .int .i64 p] w fun e w' => e = .returned (.int .i64 (roI s W p)) ∧ Below w.heap.size w w' := by
  have hs' := hs
  unfold maxLen at hs'
  have hlen := rows_small s W
  have hc := sWR_any s W w hs
  have hnil : valid s.data.toList = false → (rowsL s W).length = 0 := fun h => by unfold rowsL; rw [if_neg (by unfold wOk; simp [h])]; rfl
  cases hp : inI p 0 s.size
  · have HE := Lib.hid (ro_no (s := s) (W := W) (p := p) (.inl (by unfold place; rw [hp]; simp)))
    generalize rowsL s W = xs at *
    have HC := Lib.hid hc
    clear hc hnil
    go_enter Tryd.func12, Tryd.ntmps12
    go_wp2_with fail
    refine (HC.out).mono ?_
    rintro e W1 ⟨A, c, rfl, ho, hb⟩
    clear ho
    by_cases h0 : xs.length = 0
    · have h0' : (xs.length : Int) ≤ 0 := by omega
      clear h0
      go_wp2_with fail
      refine wp_loop_rounds 1 ?_
      rw [rounds_succ]
      go_wp2_with fail
      go_ret
      exact ⟨ret_int HE.out.symm, hb⟩
    · have h0' : (0 : Int) < (xs.length : Int) := by omega
      clear h0
      go_wp2_with fail
      refine wp_loop_rounds 1 ?_
      rw [rounds_succ]
      go_wp2_with fail
      refine (l1In_any _ _ _ _).mono ?_
      rintro e w' ⟨rfl, rfl⟩
      go_wp2_with fail
      go_ret
      exact ⟨ret_int HE.out.symm, hb⟩
  · have HE : Hid (roI s W p = topF (rowG (rowsL s W) p) (rowsL s W).length) := Lib.hid (by
      cases hv : valid s.data.toList
      · have h1 : rowsL s W = [] := List.eq_nil_of_length_eq_zero (hnil hv)
        unfold roI; rw [h1]; split <;> rfl
      · unfold roI; rw [if_pos (by unfold place; rw [hv, hp]; rfl)])
    have hg := fun k (hk : k < (rowsL s W).length) => rowG_at (p := p) hk
    generalize rowsL s W = xs at *
    have HC := Lib.hid hc
    have HG := Lib.hid hg
    clear hc hg hnil
    go_enter Tryd.func12, Tryd.ntmps12
    go_wp2_with fail
    refine (HC.out).mono ?_
    rintro e W1 ⟨A, c, rfl, ho, hb⟩
    have hr := Row.of_own2 ho
    clear ho
    go_wp2_with fail
    go_loop [7, 9] (fun rv iv => ∃ k : Nat, iv = .int .i64 k ∧ k ≤ xs.length ∧ rv = .int .i64 (topF (rowG xs p) k)) (fun _ iv => xs.length - (intOf iv).toNat)
    case atStart => exact ⟨0, rfl, Nat.zero_le _, rfl⟩
    case round =>
      obtain ⟨k, rfl, hk, rfl⟩ := hrel
      by_cases hkx : k < xs.length
      · obtain ⟨b, o, rfl, hbb, c0, c1⟩ := hr.pair hkx
        have hgk := HG.out k hkx
        have hk' : (k : Int) < (xs.length : Int) := by omega
        have hk0 : (0 : Int) ≤ (k : Int) := by omega
        generalize (xs[k]'hkx).1 = x at *
        generalize (xs[k]'hkx).2 = y at *
        have HGK := Lib.hid hgk
        clear hgk
        by_cases hx : x ≤ p
        · go_wp2_with fail
          refine (l1In_any _ _ _ _).mono ?_
          rintro e w' ⟨rfl, rfl⟩
          go_wp2_with fail
          go_round
          case rel => exact ⟨k + 1, by go_num, by omega, by rw [topF_hit (by rw [HGK.out]; exact decide_eq_true hx)]⟩
          case measure => (simp [intOf] <;> omega)
        · go_wp2_with fail
          refine (l1In_any _ _ _ _).mono ?_
          rintro e w' ⟨rfl, rfl⟩
          go_wp2_with fail
          go_round
          case rel => exact ⟨k + 1, by go_num, by omega, by rw [topF_miss (by rw [HGK.out]; exact decide_eq_false (by omega))]⟩
          case measure => (simp [intOf] <;> omega)
      · obtain rfl : k = xs.length := by omega
        go_wp2_with fail
        go_ret
        exact ⟨ret_int HE.out.symm, hb⟩
end Go.Proofs.YtglnkcggcgbaiaaDoor
