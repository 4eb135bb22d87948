/- Rectangles in plain words; the program's corners and lines. -/
import Derived.Test.YthcijegcnecnmaaDoorLs
import Derived.Test.YthcijegcnecnmaaDoorNs
import Derived.Test.YthcijegcnecnmaaDoorNo
import Derived.Test.YthcijegcnecnmaaDoorQo
set_option linter.unusedVariables false
set_option linter.unusedSimpArgs false
namespace Go.Proofs.YthcijegcnecnmaaDoor
open Go.RowKit
def rcOk (s : ByteArray) (a b : Int) : Bool := place s a && place s b
/-- The bytes of line n in the columns from x up to y. -/
def cutR (s : ByteArray) (x y n : Nat) : ByteArray := s.extract (lsN s n + min x (eolN s (lsN s n) - lsN s n)) (lsN s n + min y (eolN s (lsN s n) - lsN s n))
def rcG (s : ByteArray) (x y f k : Nat) : List ByteArray := (List.range k).map fun j => cutR s x y (f + j)
theorem rcG_len (s : ByteArray) (x y f k : Nat) : (rcG s x y f k).length = k := by simp [rcG]
theorem rcG_at (s : ByteArray) (x y f : Nat) {k j : Nat} (hj : j < k) : (rcG s x y f k)[j]? = some (cutR s x y (f + j)) := by
  simp [rcG, List.getElem?_map, List.getElem?_range hj]
/-- The rectangle of two places. -/
def rcL (s : ByteArray) (a b : Int) : List ByteArray :=
  if rcOk s a b = true then rcG s (min (coI s a) (coI s b)).toNat (max (coI s a) (coI s b)).toNat (min (loI s a) (loI s b)).toNat ((max (loI s a) (loI s b)).toNat + 1 - (min (loI s a) (loI s b)).toNat) else []
theorem pl_nat {s : ByteArray} {a : Int} (h : place s a = true) : ∃ n : Nat, a = n ∧ n ≤ s.size ∧ loI s a = (cntN s n : Int) ∧ coI s a = ((n - bolN s n : Nat) : Int) ∧ cntN s n ≤ cntN s s.size := by
  obtain ⟨n, rfl, hn⟩ := place_nat h
  obtain ⟨h1, _, h3⟩ := co_at h hn
  refine ⟨n, rfl, hn, by unfold loI; rw [if_pos h]; rfl, by rw [h1]; omega, ?_⟩
  exact cnt_mono s hn
theorem rc_nat {s : ByteArray} {a b : Int} (h : rcOk s a b = true) : ∃ f t x y : Nat, min (loI s a) (loI s b) = (f : Int) ∧ max (loI s a) (loI s b) = (t : Int) ∧ min (coI s a) (coI s b) = (x : Int) ∧ max (coI s a) (coI s b) = (y : Int) ∧
    f ≤ t ∧ t ≤ cntN s s.size ∧ x ≤ y ∧ y ≤ 120 ∧ s.size ≤ 120 ∧ valid s.data.toList = true ∧ place s a = true ∧ place s b = true ∧ rcL s a b = rcG s x y f (t + 1 - f) := by
  have h0 := h
  unfold rcOk at h
  rw [Bool.and_eq_true] at h
  obtain ⟨ha, hb⟩ := h
  have hv := (placeS ha).1
  have h120 := valid_size hv
  obtain ⟨n, _, hn, hl1, hc1, hm1⟩ := pl_nat ha
  obtain ⟨m, _, hm, hl2, hc2, hm2⟩ := pl_nat hb
  refine ⟨min (cntN s n) (cntN s m), max (cntN s n) (cntN s m), min (n - bolN s n) (m - bolN s m), max (n - bolN s n) (m - bolN s m), by rw [hl1, hl2]; omega, by rw [hl1, hl2]; omega, by rw [hc1, hc2]; omega, by rw [hc1, hc2]; omega, by omega, by omega, by omega, by omega, by omega, hv, ha, hb, ?_⟩
  unfold rcL
  rw [if_pos h0, hl1, hl2, hc1, hc2]
  congr 1 <;> omega
theorem rc_no {s : ByteArray} {a b : Int} (h : rcOk s a b = false) : rcL s a b = [] ∧ min (coI s a) (coI s b) = -1 := by
  refine ⟨by unfold rcL; rw [if_neg (by simp [h])], ?_⟩
  have h1 : ∀ c, place s c = false → coI s c = -1 := fun c hc => by unfold coI; rw [if_neg (by simp [hc])]
  have h2 : ∀ c, -1 ≤ coI s c := fun c => by
    cases hc : place s c
    · rw [h1 c hc]; omega
    · obtain ⟨n, _, _, _, h3, _⟩ := pl_nat hc
      rw [h3]; omega
  unfold rcOk at h
  have ga := h2 a
  have gb := h2 b
  cases ha : place s a
  · rw [h1 a ha]; omega
  · cases hb : place s b
    · rw [h1 b hb]; omega
    · rw [ha, hb] at h; cases h
theorem cutR_line {s : ByteArray} {x y n : Nat} (hn : n ≤ cntN s s.size) : cutR s x y n = (lineS s n).extract (min x (lineS s n).size) (min y (lineS s n).size) := by
  obtain ⟨h1, _, _⟩ := ls_ok hn
  obtain ⟨e1, e2, _, _⟩ := eol_spec s h1
  rw [lineS_size hn]
  unfold lineS cutR
  rw [ByteArray.extract_extract]
  congr 1
  omega
theorem results_q4 {fn : Func} {t u v x : Tmp} (h : fn.results = #[.tmp t, .tmp u, .tmp v, .tmp x]) (tmps : Array Value) (P : Program) (w : World) :
    (results fn tmps).run P w = .ok (.tuple #[tmps.getD t undef, tmps.getD u undef, tmps.getD v undef, tmps.getD x undef]) w := by
  simp [results, h]
theorem corners_any (s : ByteArray) (a b : Int) (w : World) (hs : s.size ≤ maxLen) :
    Calls Tryd.prog 35 #[.string s, .int .i64 a, .int .i64 b] w fun e w' => e = .returned (.tuple #[.int .i64 (min (loI s a) (loI s b)), .int .i64 (max (loI s a) (loI s b)), .int .i64 (min (coI s a) (coI s b)), .int .i64 (max (coI s a) (coI s b))]) ∧ ∃ q, w' = w.drewN q := by
  have hc1 := fun W => iLO_any s a W hs
  have hc2 := fun W => iLO_any s b W hs
  have hc3 := fun W => iCO_any s a W hs
  have hc4 := fun W => iCO_any s b W hs
  generalize loI s a = la at *
  generalize loI s b = lb at *
  generalize coI s a = ca at *
  generalize coI s b = cb at *
  have H1 := Lib.hid hc1
  have H2 := Lib.hid hc2
  have H3 := Lib.hid hc3
  have H4 := Lib.hid hc4
  clear hc1 hc2 hc3 hc4
  go_enter Tryd.func35, Tryd.ntmps35
  go_wp2_with fail
  refine (H1.out _).mono ?_
  rintro e w' ⟨rfl, rfl⟩
  go_wp2_with fail
  refine (H2.out _).mono ?_
  rintro e w' ⟨rfl, rfl⟩
  go_wp2_with fail
  refine (H3.out _).mono ?_
  rintro e w' ⟨rfl, rfl⟩
  go_wp2_with fail
  refine (H4.out _).mono ?_
  rintro e w' ⟨rfl, rfl⟩
  go_wp2_with fail
  refine bodyPost_ret (results_q4 rfl _ _ _) rfl ?_
  exact ⟨rfl, 0, rfl⟩
/-- The lines of a text are returned in a new slice. -/
theorem iLs_any (s : ByteArray) (w : World) (hs : s.size ≤ 200) (hM : ML w) : Calls Tryd.prog 36 #[.string s] w (StrsPost (linesL s) w) := by
  obtain ⟨m, hm⟩ := hM
  obtain ⟨h1, h2⟩ := split_all s
  have hc := Tryd.strings_Split s ⟨#[10]⟩ m w (by omega) hm (by decide)
  rw [h2, h1] at hc
  have hl := linesL_len s
  rw [← hl] at hc
  have HC := Lib.hid hc
  clear hc hm h1 h2 hl
  go_enter Tryd.func36, Tryd.ntmps36
  go_wp2_with fail
  refine (HC.out).mono ?_
  rintro e w' ⟨rfl, rfl⟩
  have hrow : (w.alloc (.cells ((linesL s).map Value.string).toArray 9)).ownsRow w.heap.size 9 1 (.slice (some ⟨w.heap.size, 0, none⟩) (linesL s).length (linesL s).length) (linesL s).length (strVals (linesL s)) := by
    have h9 := World.ownsRow_lit (base := w.heap.size) (e := 9) (size := 1) w ((linesL s).map Value.string).toArray (linesL s).length (Nat.le_refl _) (by rw [linesL_len]; have := cnt_le s s.size; unfold maxLen; omega) (by simp)
    simpa [strVals] using h9
  have HR := Lib.hid (And.intro hrow ((Below.refl w.heap.size w).alloc (Nat.le_refl _) (.cells ((linesL s).map Value.string).toArray 9)))
  clear hrow
  go_wp2_with fail
  go_ret
  exact ⟨_, _, rfl, HR.out.1, HR.out.2⟩
end Go.Proofs.YthcijegcnecnmaaDoor
