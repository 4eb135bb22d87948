/- The contracts of the reference's ApplyChange and ReverseChange. -/
import Derived.Test.YtlnldnenkajcdaaVy
set_option linter.unusedVariables false
set_option linter.unusedSimpArgs false
namespace Go.Proofs.Ytlnldnenkajcdaa
open Go.RowKit
set_option maxHeartbeats 8000000 in
set_option maxRecDepth 100000 in
theorem sRV_any (s put : ByteArray) (a c : Int) (w : World) (hs : s.size ≤ 200) (hput : put.size ≤ 2000000) :
    Calls Try.prog 44 #[.string s, .agg #[.int .i64 a, .int .i64 c, .string put]] w fun e w' => e = .returned (.tuple #[if fitB s put a c = true then .agg #[.int .i64 a, .int .i64 put.size, .string (s.extract a.toNat (a + c).toNat)] else .agg #[.int .i64 0, .int .i64 0, .string ⟨#[]⟩], .bool (fitB s put a c)]) ∧ Below w.heap.size w w' := by
  have hsm : s.size ≤ maxLen := by unfold maxLen; omega
  have hcf := fun W => sCF_any s put a c W hs hput
  obtain ⟨Y, hY⟩ : ∃ Y, (w.alloc (.cells #[.int .i64 a, .int .i64 c, .string put] 36)).alloc (.cells #[.int .i64 0, .int .i64 0, .string ⟨#[]⟩] 36) = Y := ⟨_, rfl⟩
  have hbY : Below w.heap.size w Y := hY ▸ (((Below.refl w.heap.size w).alloc (Nat.le_refl _) _).alloc (by simp) _)
  have hzY : w.heap.size + 1 < Y.heap.size := by rw [← hY]; simp
  have hblk2 : Y.heap[w.heap.size + 1]? = some (.cells #[.int .i64 0, .int .i64 0, .string ⟨#[]⟩] 36 (0, 0)) := by
    have h1 := heap_alloc_new (w.alloc (.cells #[.int .i64 a, .int .i64 c, .string put] 36)) (.cells #[.int .i64 0, .int .i64 0, .string ⟨#[]⟩] 36)
    have e : (w.alloc (.cells #[.int .i64 a, .int .i64 c, .string put] 36)).heap.size = w.heap.size + 1 := by simp
    rw [e, hY] at h1
    exact h1
  have hblk1 : Y.heap[w.heap.size]? = some (.cells #[.int .i64 a, .int .i64 c, .string put] 36 (0, 0)) := by
    have h1 := (Below.heap_alloc (w.alloc (.cells #[.int .i64 a, .int .i64 c, .string put] 36)) (.cells #[.int .i64 0, .int .i64 0, .string ⟨#[]⟩] 36) w.heap.size (by simp)).trans (heap_alloc_new w _)
    rw [hY] at h1
    exact h1
  have hcells : ∀ W, Below Y.heap.size Y W → ∀ i, W.cell? ⟨w.heap.size, i, none⟩ = (#[Value.int .i64 a, .int .i64 c, .string put])[i]? ∧ W.cell? ⟨w.heap.size + 1, i, none⟩ = (#[Value.int .i64 0, .int .i64 0, .string ⟨#[]⟩])[i]? ∧ W.frozen? ⟨w.heap.size + 1, i, none⟩ = false := fun W hb i =>
    ⟨(hb.cell (p := ⟨w.heap.size, i, none⟩) (show w.heap.size < _ by omega)).trans (cell_of_row Y _ i _ _ _ hblk1), (hb.cell (p := ⟨w.heap.size + 1, i, none⟩) hzY).trans (cell_of_row Y _ i _ _ _ hblk2), (hb.frozen (p := ⟨w.heap.size + 1, i, none⟩) hzY).trans (by simp [World.frozen?, hblk2])⟩
  have HC := Lib.hid hcells
  have HBY := Lib.hid hbY
  clear hblk1 hblk2 hcells hbY
  cases hf : fitB s put a c
  · rw [hf] at hcf
    rw [if_neg (by simp)]
    have HCF := Lib.hid hcf
    clear hcf
    obtain ⟨ya0, yr0, yf0⟩ := HC.out Y (Below.refl _ _) 0
    obtain ⟨ya1, yr1, yf1⟩ := HC.out Y (Below.refl _ _) 1
    obtain ⟨ya2, yr2, yf2⟩ := HC.out Y (Below.refl _ _) 2
    simp only [List.getElem?_toArray, List.getElem?_cons_zero, List.getElem?_cons_succ] at ya0 yr0 ya1 yr1 ya2 yr2
    go_enter Try.func44, Try.ntmps44
    go_wp2_with fail
    refine (HCF.out _).mono ?_
    rintro e W1 ⟨rfl, hb1⟩
    have hfin := HBY.out.trans (hb1.mono HBY.out.size)
    clear ya0 yr0 yf0 ya1 yr1 yf1 ya2 yr2 yf2
    obtain ⟨a0, r0, f0⟩ := HC.out W1 hb1 0
    obtain ⟨a1, r1, f1⟩ := HC.out W1 hb1 1
    obtain ⟨a2, r2, f2⟩ := HC.out W1 hb1 2
    simp only [List.getElem?_toArray, List.getElem?_cons_zero, List.getElem?_cons_succ] at a0 r0 a1 r1 a2 r2
    go_wp2_with fail
    have hb5 : Below w.heap.size w (((W1.setCell ⟨w.heap.size + 1, 0, none⟩ (Value.int .i64 0)).setCell ⟨w.heap.size + 1, 1, none⟩ (Value.int .i64 0)).setCell ⟨w.heap.size + 1, 2, none⟩ (Value.string ⟨#[]⟩)) :=
      ((hfin.setCell (p := ⟨w.heap.size + 1, 0, none⟩) (by simp) _).setCell (p := ⟨w.heap.size + 1, 1, none⟩) (by simp) _).setCell (p := ⟨w.heap.size + 1, 2, none⟩) (by simp) _
    have HB5 := Lib.hid hb5
    clear hb5 hfin
    refine bodyPost_ret (v := .tuple #[.agg #[.int .i64 0, .int .i64 0, .string ⟨#[]⟩], .bool false]) ?_ rfl ⟨rfl, HB5.out⟩
    simp [results, Try.results44, go_sem, r0, r1, r2]
  · rw [hf] at hcf
    rw [if_pos rfl]
    have HCF := Lib.hid hcf
    have hib : inB s a c = true := by unfold fitB at hf; rw [Bool.and_eq_true] at hf; exact hf.1
    obtain ⟨p, q, rfl, rfl, hpq, hqs, hv, _⟩ := inB_nat hib
    have e1 : ((p : Int) + ((q : Int) - p)).toNat = q := by omega
    have e2 : (p : Int).toNat = p := Int.toNat_natCast p
    have hp0 : (0 : Int) ≤ (p : Int) := by omega
    have hpq' : (p : Int) ≤ (q : Int) := by omega
    have hqs' : (q : Int) ≤ (s.size : Int) := by omega
    have hsum : (p : Int) + ((q : Int) - (p : Int)) = (q : Int) := by omega
    have x5 : IntKind.i64.wrap (q : Int) = (q : Int) := IntWalk.i64_in _ (by omega)
    rw [e1, e2]
    clear hcf hib hv e1 e2
    obtain ⟨ya0, yr0, yf0⟩ := HC.out Y (Below.refl _ _) 0
    obtain ⟨ya1, yr1, yf1⟩ := HC.out Y (Below.refl _ _) 1
    obtain ⟨ya2, yr2, yf2⟩ := HC.out Y (Below.refl _ _) 2
    simp only [List.getElem?_toArray, List.getElem?_cons_zero, List.getElem?_cons_succ] at ya0 yr0 ya1 yr1 ya2 yr2
    go_enter Try.func44, Try.ntmps44
    go_wp2_with fail
    refine (HCF.out _).mono ?_
    rintro e W1 ⟨rfl, hb1⟩
    have hfin := HBY.out.trans (hb1.mono HBY.out.size)
    clear ya0 yr0 yf0 ya1 yr1 yf1 ya2 yr2 yf2
    obtain ⟨a0, r0, f0⟩ := HC.out W1 hb1 0
    obtain ⟨a1, r1, f1⟩ := HC.out W1 hb1 1
    obtain ⟨a2, r2, f2⟩ := HC.out W1 hb1 2
    simp only [List.getElem?_toArray, List.getElem?_cons_zero, List.getElem?_cons_succ] at a0 r0 a1 r1 a2 r2
    go_wp2_with fail
    go_region_held3 (fun w' => w'.cell? ⟨w.heap.size, 0, none⟩ = some (.int .i64 p) ∧ w'.cell? ⟨w.heap.size, 1, none⟩ = some (.int .i64 ((q : Int) - p)) ∧ w'.cell? ⟨w.heap.size, 2, none⟩ = some (.string put)) (go_keep) (fail)
    go_wp2_with fail
    have hb5 : Below w.heap.size w (((W1.setCell ⟨w.heap.size + 1, 0, none⟩ (Value.int .i64 p)).setCell ⟨w.heap.size + 1, 1, none⟩ (Value.int .i64 put.size)).setCell ⟨w.heap.size + 1, 2, none⟩ (Value.string (s.extract p q))).drew :=
      (((hfin.setCell (p := ⟨w.heap.size + 1, 0, none⟩) (by simp) _).setCell (p := ⟨w.heap.size + 1, 1, none⟩) (by simp) _).setCell (p := ⟨w.heap.size + 1, 2, none⟩) (by simp) _).trans ((drewN_on (((W1.setCell ⟨w.heap.size + 1, 0, none⟩ (Value.int .i64 p)).setCell ⟨w.heap.size + 1, 1, none⟩ (Value.int .i64 put.size)).setCell ⟨w.heap.size + 1, 2, none⟩ (Value.string (s.extract p q))) 1).mono (by have := hfin.size; simpa [World.setCell] using this))
    have HB5 := Lib.hid hb5
    clear hb5 hfin
    refine bodyPost_ret (v := .tuple #[.agg #[.int .i64 p, .int .i64 put.size, .string (s.extract p q)], .bool true]) ?_ rfl ⟨rfl, HB5.out⟩
    simp [results, Try.results44, go_sem, r0, r1, r2]
set_option maxHeartbeats 4000000 in
theorem sAC_any (s put : ByteArray) (a c : Int) (w : World) (hs : s.size ≤ 200) (hput : put.size ≤ 2000000) :
    Calls Try.prog 43 #[.string s, .agg #[.int .i64 a, .int .i64 c, .string put]] w fun e w' => e = .returned (.tuple #[.string (if valid s.data.toList = true then (if fitB s put a c = true then apX s put a c else s) else ⟨#[]⟩), .bool (fitB s put a c)]) ∧ Below w.heap.size w w' := by
  have hsm : s.size ≤ maxLen := by unfold maxLen; omega
  have hTV := fun W => sTV_any s W hsm
  obtain ⟨Y, hY⟩ : ∃ Y, w.alloc (.cells #[.int .i64 a, .int .i64 c, .string put] 36) = Y := ⟨_, rfl⟩
  have hb0 : Below w.heap.size w Y := hY ▸ (Below.refl w.heap.size w).alloc (Nat.le_refl _) _
  have hbl : Y.heap[w.heap.size]? = some (.cells #[.int .i64 a, .int .i64 c, .string put] 36 (0, 0)) := hY ▸ heap_alloc_new w _
  have hzY : w.heap.size < Y.heap.size := by rw [← hY]; simp
  have HB := Lib.hid (And.intro hb0 hbl)
  have hc := fun W => sCF_any s put a c W hs hput
  obtain ⟨g, hg⟩ : ∃ g, w.heap.size = g := ⟨_, rfl⟩
  rw [hg] at hbl hzY
  have y0 : Y.cell? ⟨g, 0, none⟩ = some (.int .i64 a) := cell_of_row Y g 0 _ _ _ hbl
  have y1 : Y.cell? ⟨g, 1, none⟩ = some (.int .i64 c) := cell_of_row Y g 1 _ _ _ hbl
  have y2 : Y.cell? ⟨g, 2, none⟩ = some (.string put) := cell_of_row Y g 2 _ _ _ hbl
  clear hb0 hbl
  cases hv : valid s.data.toList
  · have hf : fitB s put a c = false := by unfold fitB inB place; rw [hv]; rfl
    rw [hf, if_neg (by simp)]
    rw [hv] at hTV
    have HTV := Lib.hid hTV
    clear hc hTV
    go_enter Try.func43, Try.ntmps43
    go_wp2_with fail
    refine (HTV.out _).mono ?_
    rintro e w' ⟨rfl, rfl⟩
    go_wp2_with fail
    go_ret2
    exact ⟨rfl, HB.out.1⟩
  · rw [hv] at hTV
    rw [if_pos rfl]
    have HTV := Lib.hid hTV
    cases hf : fitB s put a c
    · rw [hf] at hc
      rw [if_neg (by simp)]
      have HC := Lib.hid hc
      clear hc hTV
      go_enter Try.func43, Try.ntmps43
      go_wp2_with fail
      refine (HTV.out _).mono ?_
      rintro e w' ⟨rfl, rfl⟩
      go_wp2_with fail
      refine (HC.out _).mono ?_
      rintro e w' ⟨rfl, hb⟩
      have HB2 := Lib.hid (HB.out.1.trans (hb.mono HB.out.1.size))
      clear hb
      go_wp2_with fail
      go_ret2
      exact ⟨rfl, HB2.out⟩
    · obtain ⟨p, q, rfl, rfl, hpq, hqs, _, hap, _, _⟩ := fit_nat hf
      rw [hf] at hc
      rw [if_pos rfl, hap]
      have HC := Lib.hid hc
      have hp0 : (0 : Int) ≤ (p : Int) := by omega
      have hp1 : (p : Int) ≤ (s.size : Int) := by omega
      have hpq2 : (p : Int) + ((q : Int) - (p : Int)) = (q : Int) := by omega
      have hq0 : (0 : Int) ≤ (q : Int) := by omega
      have hq1 : (q : Int) ≤ (s.size : Int) := by omega
      have HX : Hid (s.extract 0 p ++ put ++ s.extract q s.size = acX s put p q) := Lib.hid rfl
      clear hc hTV hap hf hv
      go_enter Try.func43, Try.ntmps43
      go_wp2_with fail
      refine (HTV.out _).mono ?_
      rintro e w' ⟨rfl, rfl⟩
      go_wp2_with fail
      refine (HC.out _).mono ?_
      rintro e W2 ⟨rfl, hb⟩
      have z0 := (hb.cell (p := ⟨g, 0, none⟩) hzY).trans y0
      have z1 := (hb.cell (p := ⟨g, 1, none⟩) hzY).trans y1
      have z2 := (hb.cell (p := ⟨g, 2, none⟩) hzY).trans y2
      have HB2 := Lib.hid (HB.out.1.trans (hb.mono HB.out.1.size))
      clear hb y0 y1 y2
      go_wp2_with fail
      go_quiet (fail)
      go_wp2_with fail
      go_ret2
      rw [HX.out]
      exact ⟨rfl, below_drewN HB2.out nq⟩
end Go.Proofs.Ytlnldnenkajcdaa
