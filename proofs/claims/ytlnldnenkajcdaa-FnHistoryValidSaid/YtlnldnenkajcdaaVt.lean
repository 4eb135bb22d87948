/- The contracts of MoveMarks. -/
import Derived.Test.YtlnldnenkajcdaaVs
set_option linter.unusedVariables false
set_option linter.unusedSimpArgs false
namespace Go.Proofs.Ytlnldnenkajcdaa
open Go.RowKit
set_option maxHeartbeats 8000000 in
set_option maxRecDepth 100000 in
theorem iMM_any (s put : ByteArray) (a c : Int) (A : Option Addr) (n cc : Nat) (ms : List (Int × Bool)) (w : World) (hs : s.size ≤ 200) (hput : put.size ≤ 2000000) (h : Row w w.heap.size A (mks ms)) (hn : ms.length = n) (hmax : n ≤ 100) :
    Calls Try.prog 13 #[.string s, .slice A n cc, .agg #[.int .i64 a, .int .i64 c, .string put]] w (MarksPost (mmL s put a c ms) w) := by
  have hsm : s.size ≤ maxLen := by unfold maxLen; omega
  subst hn
  obtain ⟨X, hX⟩ : ∃ X, w.alloc (.cells #[.int .i64 a, .int .i64 c, .string put] 36) = X := ⟨_, rfl⟩
  have hbX : Below w.heap.size w X := hX ▸ (Below.refl w.heap.size w).alloc (Nat.le_refl _) _
  have hzX : w.heap.size < X.heap.size := by rw [← hX]; simp
  have hblk := heap_alloc_new w (.cells #[.int .i64 a, .int .i64 c, .string put] 36)
  rw [hX] at hblk
  have hrX := (h.below hbX).more (Nat.le_of_lt hzX)
  have hbox : ∀ W, Below X.heap.size X W → W.cell? ⟨w.heap.size, 0, none⟩ = some (.int .i64 a) ∧ W.cell? ⟨w.heap.size, 1, none⟩ = some (.int .i64 c) ∧ W.cell? ⟨w.heap.size, 2, none⟩ = some (.string put) := fun W hb =>
    ⟨(hb.cell (p := ⟨w.heap.size, 0, none⟩) hzX).trans (cell_of_row X _ 0 _ _ _ hblk), (hb.cell (p := ⟨w.heap.size, 1, none⟩) hzX).trans (cell_of_row X _ 1 _ _ _ hblk), (hb.cell (p := ⟨w.heap.size, 2, none⟩) hzX).trans (cell_of_row X _ 2 _ _ _ hblk)⟩
  have hmv := fun W h => iMV_any s A _ cc ms W hsm h rfl (by omega)
  have hcf := fun W => iCF_any s put a c W hs hput
  have HBOX := Lib.hid hbox
  have HBX := Lib.hid hbX
  have HRX := Lib.hid hrX
  cases hm : mvB s ms
  · have hr : mmL s put a c ms = [] := by unfold mmL; rw [hm]; rfl
    rw [hr]
    rw [hm] at hmv
    have HMV := Lib.hid hmv
    clear hmv hcf hbox hr hblk hbX hrX
    go_enter Try.func13, Try.ntmps13
    go_wp2_with fail
    refine (HMV.out _ HRX.out).mono ?_
    rintro e W1 ⟨rfl, hb1⟩
    have hfin := HBX.out.trans (hb1.mono HBX.out.size)
    go_wp2_with fail
    go_ret
    exact ⟨none, 0, rfl, World.ownsRow_nil _ _ _ _, hfin⟩
  rw [hm] at hmv
  have HMV := Lib.hid hmv
  cases hf : fitB s put a c
  · have hr : mmL s put a c ms = [] := by unfold mmL; rw [hf, Bool.and_false]; rfl
    rw [hr]
    rw [hf] at hcf
    have HCF := Lib.hid hcf
    clear hmv hcf hbox hr hblk hbX hrX
    go_enter Try.func13, Try.ntmps13
    go_wp2_with fail
    refine (HMV.out _ HRX.out).mono ?_
    rintro e W1 ⟨rfl, hb1⟩
    obtain ⟨k0, k1, k2⟩ := HBOX.out W1 hb1
    go_wp2_with fail
    refine (HCF.out _).mono ?_
    rintro e W2 ⟨rfl, hb2⟩
    have hfin := HBX.out.trans ((hb1.trans (hb2.mono hb1.size)).mono HBX.out.size)
    go_wp2_with fail
    go_ret
    exact ⟨none, 0, rfl, World.ownsRow_nil _ _ _ _, hfin⟩
  rw [hf] at hcf
  have HCF := Lib.hid hcf
  have hib : inB s a c = true ∧ valid (apX s put a c).data.toList = true := by unfold fitB at hf; simpa using hf
  obtain ⟨p, q, rfl, hce, hpq, hqs, hv, hap⟩ := inB_nat hib.1
  have h120 := valid_size hv
  have hvx := hib.2
  rw [hap] at hvx
  have hpz : put.size ≤ 120 := by
    have h1 := valid_size hvx
    rw [ac_size s put hpq hqs] at h1
    omega
  obtain ⟨cn, hcn⟩ : ∃ cn : Nat, c = (cn : Int) := ⟨q - p, by omega⟩
  subst hcn
  have hall : ∀ k (hk : k < ms.length), ∃ m : Nat, ms[k].1 = (m : Int) ∧ m ≤ 120 := fun k hk => by
    have h1 : allM s.size ms = true := by unfold mvB at hm; rw [Bool.and_eq_true, Bool.and_eq_true] at hm; exact hm.1.2
    have h2 := allM_iff.1 h1 _ (List.getElem_mem hk)
    have h3 : 0 ≤ ms[k].1 ∧ ms[k].1 ≤ (s.size : Int) := by simpa [inI] using h2
    exact ⟨ms[k].1.toNat, by omega, by omega⟩
  have hmp := fun (m : Nat) (b : Bool) (hm : m ≤ 120) W => iMP_any put p cn m b W (by omega) (by omega) hm hpz
  have hr : mmL s put p cn ms = ms.map fun m => (mvI p cn put.size m.1 m.2, m.2) := by unfold mmL; rw [hm, hf]; rfl
  have htk := fun k (hk : k < ms.length) (m : Int) (b : Bool) (e : ms[k] = (m, b)) => mm_take (p : Int) (cn : Int) (put.size : Int) hk e
  rw [hr]
  obtain ⟨F, hF⟩ : ∃ F : Nat → List (Int × Bool), F = fun k => (ms.take k).map fun m => (mvI p cn put.size m.1 m.2, m.2) := ⟨_, rfl⟩
  have hFl : ∀ k, k ≤ ms.length → (F k).length = k := fun k hk => by rw [hF]; simp; omega
  have hF0 : F 0 = [] := by rw [hF]; simp
  have hFn : F ms.length = ms.map fun m => (mvI p cn put.size m.1 m.2, m.2) := by rw [hF]; simp
  have hFs : ∀ k (hk : k < ms.length) (m : Int) (b : Bool), ms[k] = (m, b) → mks (F k) ++ [.int .i64 (mvI p cn put.size m b), .bool b] = mks (F (k + 1)) := fun k hk m b e => by rw [hF]; exact htk k hk m b e
  rw [← hFn]
  have HFL := Lib.hid hFl
  have HFS := Lib.hid hFs
  have HF0 := Lib.hid hF0
  have HALL := Lib.hid hall
  have HMP := Lib.hid hmp
  have HX := Lib.hid hX
  obtain ⟨i0, hi, hz0, hz1, hz2⟩ := info_parts2 infoMark
  clear hmv hcf hbox hblk hbX hrX hib hce hap hvx hall hmp hr htk hF hFl hFs hF0 hFn hm hf hv
  go_enter Try.func13, Try.ntmps13
  go_wp2_with fail
  refine (HMV.out _ HRX.out).mono ?_
  rintro e W1 ⟨rfl, hb1⟩
  obtain ⟨k0, k1, k2⟩ := HBOX.out W1 hb1
  go_wp2_with fail
  refine (HCF.out _).mono ?_
  rintro e W2 ⟨rfl, hb2⟩
  have hb12 := hb1.trans (hb2.mono hb1.size)
  have HB12 := Lib.hid hb12
  have hszW := hb12.size
  clear hb1 hb2 k0 k1 k2 hb12
  go_wp2_with fail
  go_loopw [7, 22] (fun ov iv wr => ∃ k : Nat, k ≤ ms.length ∧ iv = .int .i64 k ∧ wr.ownsRow X.heap.size 46 2 ov k (mks (F k)) ∧ Below X.heap.size X wr) (fun _ iv _ => ms.length - (intOf iv).toNat)
  case atStart => exact ⟨0, Nat.zero_le _, rfl, by rw [HF0.out]; exact World.ownsRow_nil _ _ _ _, HB12.out⟩
  case round =>
    obtain ⟨k, hk, rfl, hown, hbw⟩ := hrel
    have hBz : X.heap.size ≤ wr.heap.size := hbw.size
    by_cases hkx : k < ms.length
    · obtain ⟨m, hm1, hm2⟩ := HALL.out k hkx
      obtain ⟨g, o, rfl, hgb, c0, c1⟩ := (HRX.out.below hbw).mark hkx
      have hst := HFS.out k hkx ms[k].1 ms[k].2 rfl
      rw [hm1] at c0 hst
      generalize (ms[k]'hkx).2 = b at *
      have hmp := fun W => HMP.out m b hm2 W
      generalize mvI p cn put.size m b = r at *
      have hk' : (k : Int) < (ms.length : Int) := by omega
      have hk0 : (0 : Int) ≤ (k : Int) := by omega
      have HST := Lib.hid hst
      have HMPK := Lib.hid hmp
      have HOW := Lib.hid hown
      have HBW := Lib.hid hbw
      obtain ⟨Y, hY⟩ : ∃ Y, wr.alloc (.cells #[.int .i64 m, .bool b] 46) = Y := ⟨_, rfl⟩
      have hbY : Below X.heap.size X Y := hY ▸ hbw.alloc hBz _
      have hzY : wr.heap.size < Y.heap.size := by rw [← hY]; simp
      have hblk := heap_alloc_new wr (.cells #[.int .i64 m, .bool b] 46)
      rw [hY] at hblk
      obtain ⟨b0, b1, b2⟩ := HBOX.out Y hbY
      have m0 : Y.cell? ⟨wr.heap.size, 0, none⟩ = some (.int .i64 m) := cell_of_row Y _ 0 _ _ _ hblk
      have m1 : Y.cell? ⟨wr.heap.size, 1, none⟩ = some (.bool b) := cell_of_row Y _ 1 _ _ _ hblk
      have hownY : Y.ownsRow X.heap.size 46 2 u7 k (mks (F k)) := hY ▸ hown.alloc _
      have hzb : w.heap.size < Y.heap.size := by have := hbY.size; omega
      clear hst hmp hown hbw hblk
      go_wp2_with fail
      go_region_held3 (fun w' => w'.cell? ⟨w.heap.size, 0, none⟩ = some (.int .i64 p) ∧ w'.cell? ⟨w.heap.size, 1, none⟩ = some (.int .i64 cn) ∧ w'.cell? ⟨w.heap.size, 2, none⟩ = some (.string put) ∧ w'.cell? ⟨wr.heap.size, 0, none⟩ = some (.int .i64 m) ∧ w'.cell? ⟨wr.heap.size, 1, none⟩ = some (.bool b)) (go_keep)
        (first
          | (go_at_call 33; refine (HMPK.out _).mono ?_; rintro e w1 ⟨rfl, hb1⟩; have hbx : Below Y.heap.size Y w1 := (drewN_on Y 1).trans (show Below (Y.drewN 1).heap.size (Y.drewN 1) w1 from hb1); have own1 := own_below hownY hbx; have b0' := (hbx.cell (p := ⟨w.heap.size, 0, none⟩) hzb).trans b0; have b1' := (hbx.cell (p := ⟨w.heap.size, 1, none⟩) hzb).trans b1; have b2' := (hbx.cell (p := ⟨w.heap.size, 2, none⟩) hzb).trans b2; have m0' := (hbx.cell (p := ⟨wr.heap.size, 0, none⟩) hzY).trans m0; have m1' := (hbx.cell (p := ⟨wr.heap.size, 1, none⟩) hzY).trans m1; have hs1 := hbx.size)
          | (have hx := own1; refine step_append_at (by rfl) _ _ _ (by rfl) X.heap.size 46 i0 (.agg #[.int .i64 0, .bool false]) 2 16 Try.underlying34 hi hz0 hz1 hz2 rfl (by omega) _ k (mks (F k)) (by rfl) (own1.alloc (.cells #[.int .i64 r, .bool b] 46)) ⟨w1.heap.size, 0, none⟩ 1 1 [.int .i64 r, .bool b] (by rfl) rfl (newsM w1 46 _ _) (onesM _ _) (by unfold maxLen; omega) (by omega) (by simp; omega) ?_; intro A2 cap2 w2 hown2 hg2 hat2; have hbz : Below X.heap.size X w2 := ((hbY.trans (hbx.mono hbY.size)).alloc (by omega) (.cells #[.int .i64 r, .bool b] 46)).grown hg2 (by simp; omega) (fun q hq => ((own1.alloc (.cells #[.int .i64 r, .bool b] 46)).lt q hq).1); obtain ⟨z0, z1, z2⟩ := HBOX.out _ hbz; have hfar : ∀ i, w2.cell? ⟨wr.heap.size, i, none⟩ = w1.cell? ⟨wr.heap.size, i, none⟩ := fun i => (hg2.cell_far ⟨wr.heap.size, i, none⟩ (by simp; omega) (fun e => absurd (show wr.heap.size < wr.heap.size from (HOW.out.lt _ e.symm).2) (Nat.lt_irrefl _))).trans (World.cell?_alloc_past _ _ _ (show wr.heap.size < w1.heap.size by omega)); have y0 := (hfar 0).trans m0'; have y1 := (hfar 1).trans m1')
          | fail)
      all_goals
        rw [HST.out] at hown2
        have HF := Lib.hid (And.intro hown2 hbz)
        clear hown2 hg2 hat2 hbz own1 hbx hownY hbY
        go_wp2_with fail
        go_roundw
        case rel => exact ⟨k + 1, by omega, by go_num, HF.out.1, HF.out.2⟩
        case measure => (simp [intOf] <;> omega)
    · obtain rfl : k = ms.length := by omega
      obtain ⟨A6, c6, rfl⟩ := own_form2 hown
      have hl := HFL.out ms.length (Nat.le_refl _)
      have HE : Hid (MarksPost (F ms.length) w (.returned (.slice A6 ms.length c6)) wr) := Lib.hid (by
        refine ⟨A6, c6, by rw [hl], ?_, HBX.out.trans (hbw.mono HBX.out.size)⟩
        rw [hl]
        refine ⟨hown.1, ?_⟩
        rcases hown.2 with g | ⟨g, cap, cur, h1, h2, h3⟩
        · exact .inl g
        · exact .inr ⟨g, cap, cur, h1, Nat.le_trans HBX.out.size h2, h3⟩)
      clear hown hbw hl
      go_wp2_with fail
      go_ret
      exact HE.out
end Go.Proofs.Ytlnldnenkajcdaa
