/- Moves by lines, in plain words. No program here. -/
import Derived.Test.YtpnbfhnljjcciaaNl
set_option linter.unusedVariables false
set_option linter.unusedSimpArgs false
namespace Go.Proofs.Ytpnbfhnljjcciaa
/-- The line that a move goes to. -/
def lvK (s : ByteArray) (p b : Int) : Int := max 0 (min (loI s p + b) (lmI s - 1))
def lmvI (s : ByteArray) (p b c : Int) : Int := if place s p = true ∧ inI b (-120) 120 = true ∧ 0 ≤ c then paI s (lvK s p b) c else -1
theorem lv_ok {s : ByteArray} {p b c : Int} (hp : place s p = true) (hb : inI b (-120) 120 = true) (hc : 0 ≤ c) :
    ∃ K : Nat, lvK s p b = K ∧ K ≤ cntN s s.size ∧ lmvI s p b c = lsN s K + min c ((eolN s (lsN s K) : Int) - lsN s K) ∧ place s (lmvI s p b c) = true ∧ loI s (lmvI s p b c) = K ∧ coI s (lmvI s p b c) ≤ c ∧ 0 ≤ lmvI s p b c := by
  have hv := (placeS hp).1
  obtain ⟨m, rfl, hm⟩ := place_nat hp
  have hlo : loI s m = cntN s m := by unfold loI; rw [if_pos hp]; rfl
  have hlm := lm_cnt hv
  have hcm : cntN s m ≤ cntN s s.size := cnt_mono s hm
  have hK : lvK s m b = ((lvK s m b).toNat : Int) := by unfold lvK; omega
  have hKl : (lvK s m b).toNat ≤ cntN s s.size := by unfold lvK; omega
  generalize hKK : (lvK s m b).toNat = K at *
  obtain ⟨g1, g2, g3⟩ := ls_ok hKl
  obtain ⟨e1, e2, e3, e4⟩ := eol_spec s g1
  have hOk : lineOk s K = true := by unfold lineOk inI; rw [hv]; simp; omega
  have hv1 : lmvI s m b c = lsN s K + min c ((eolN s (lsN s K) : Int) - lsN s K) := by
    unfold lmvI; rw [if_pos ⟨hp, hb, hc⟩, hK]
    unfold paI; rw [if_pos ⟨hOk, hc⟩]
    rfl
  obtain ⟨k, hk⟩ : ∃ k : Nat, lmvI s m b c = k := ⟨(lmvI s m b c).toNat, by omega⟩
  obtain ⟨i1, i2, i3, i4⟩ := line_in (k := k) hKl (by omega) (by omega)
  have hpk : place s k = true := by unfold place inI; rw [hv]; simp; omega
  refine ⟨K, hK, hKl, hv1, by rw [hk]; exact hpk, ?_, ?_, by omega⟩
  · rw [hk]; unfold loI; rw [if_pos hpk]; exact congrArg Nat.cast i1
  · rw [hk]; unfold coI; rw [if_pos hpk]
    show (k : Int) - (bolN s k : Int) ≤ c
    rw [i2]; omega
theorem lv_back {s : ByteArray} {p : Int} (hp : place s p = true) : lmvI s p 0 (coI s p) = p := by
  obtain ⟨m, rfl, hm⟩ := place_nat hp
  have hbl := (bol_spec s m).1
  have hco : coI s m = (m : Int) - bolN s m := by unfold coI; rw [if_pos hp]; rfl
  obtain ⟨K, k1, k2, k3, _⟩ := lv_ok (b := 0) (c := coI s m) hp (by unfold inI; simp) (by omega)
  have hlo : loI s m = cntN s m := by unfold loI; rw [if_pos hp]; rfl
  have hlm := lm_cnt (placeS hp).1
  have hcm : cntN s m ≤ cntN s s.size := cnt_mono s hm
  have hKc : K = cntN s m := by unfold lvK at k1; omega
  obtain ⟨h1, h2⟩ := bol_eol (s := s) hm
  rw [k3, hKc, ls_of s hm, h1, hco]
  rw [h1] at h2
  omega
end Go.Proofs.Ytpnbfhnljjcciaa
