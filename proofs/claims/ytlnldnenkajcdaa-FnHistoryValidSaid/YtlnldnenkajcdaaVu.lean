/- The contract of the reference's MoveMarks. -/
import Derived.Test.YtlnldnenkajcdaaVt
set_option linter.unusedVariables false
set_option linter.unusedSimpArgs false
namespace Go.Proofs.Ytlnldnenkajcdaa
open Go.RowKit
set_option maxHeartbeats 8000000 in
set_option maxRecDepth 100000 in
theorem sMM_any (s put : ByteArray) (a c : Int) (A : Option Addr) (n cc : Nat) (ms : List (Int × Bool)) (w : World) (hs : s.size ≤ 200) (hput : put.size ≤ 2000000) (h : Row w w.heap.size A (mks ms)) (hn : ms.length = n) (hmax : n ≤ 100) :
    Calls Try.prog 15 #[.string s, .slice A n cc, .agg #[.int .i64 a, .int .i64 c, .string put]] w (MarksPost (mmL s put a c ms) w) := by
  have hsm : s.size ≤ maxLen := by unfold maxLen; omega
  subst hn
  obtain ⟨X, hX⟩ : ∃ X, w.alloc (.cells #[.int .i64 a, .int .i64 c, .string put] 36) = X := ⟨_, rfl⟩
  have hbX : Below w.heap.size w X := hX ▸ (Below.refl w.heap.size w).alloc (Nat.le_refl _) _
  have hzX : w.heap.size < X.heap.size := by rw [← hX]; simp
  have hblk := heap_alloc_new w (.cells #[.int .i64 a, .int .i64 c, .string put] 36)
  rw [hX] at hblk
  have hrX := (h.below hbX).more (Nat.le_of_lt hzX)
  have hbox : ∀ W, Below X.heap.size X W → W.cell? ⟨w.heap.size, 0, none⟩ = some (.int .i64 a) ∧ W.cell? ⟨w.heap.size, 1, none⟩ = some (.int .i64 c) ∧ W.cell? ⟨w.heap.size, 2, none⟩ = some (.string put) := fun W hb =>
    ⟨(hb.cell (p := ⟨w.heap.size, 0, none⟩) hzX).trans (cell_of_row X _ 0 _ _ _ hblk), (hb.cell (p := ⟨w.heap.size, 1, none⟩) hzX).trans (cell_of_row X _ 1 _ _ _ hblk), (hb.cell (p := ⟨w.heap.size, 2, none⟩) hzX).trans (cell_of_row X _ 2 _ _ _ hblk)⟩
  obtain ⟨Z, hZ⟩ : ∃ Z, X.alloc (.cells #[] 46) = Z := ⟨_, rfl⟩
  have hmade : Z.ownsRow X.heap.size 46 2 (.slice (some ⟨X.heap.size, 0, none⟩) 0 0) 0 [] := hZ ▸ World.ownsRow_made X #[] 0 (Nat.le_refl _) (by decide) rfl
  have hbZ : Below X.heap.size X Z := hZ ▸ (Below.refl X.heap.size X).alloc (Nat.le_refl _) _
  have hmv := fun W h => sMV_any s A _ cc ms W hsm h rfl (by omega)
  have hcf := fun W => sCF_any s put a c W hs hput
  have hle : ∀ (v : Value) (W : World) (k : Nat) (xs : List Value), W.ownsRow X.heap.size 46 2 v k xs → W.ownsRow w.heap.size 46 2 v k xs := fun v W k xs h => by
    refine ⟨h.1, ?_⟩
    rcases h.2 with g | ⟨g, cap, cur, h1, h2, h3⟩
    · exact .inl g
    · exact .inr ⟨g, cap, cur, h1, Nat.le_trans (Nat.le_of_lt hzX) h2, h3⟩
  have HBOX := Lib.hid hbox
  have HBX := Lib.hid hbX
  have HRX := Lib.hid hrX
  have HZ := Lib.hid (And.intro hmade hbZ)
  have HLE := Lib.hid hle
  have he : ∀ (v : Value) (W : World), W.ownsRow X.heap.size 46 2 v 0 [] → Below X.heap.size X W → MarksPost [] w (.returned v) W := fun v W h1 h2 => by
    obtain ⟨A', c', rfl⟩ := own_form2 h1
    exact ⟨A', c', rfl, HLE.out _ _ _ _ h1, HBX.out.trans (h2.mono HBX.out.size)⟩
  have HE := Lib.hid he
  have hbad : (mvB s ms && fitB s put a c) = false ∨ (mvB s ms = true ∧ fitB s put a c = true) := by
    cases mvB s ms <;> cases fitB s put a c <;> simp
  rcases hbad with hbad | ⟨hm, hf⟩
  · have hr : mmL s put a c ms = [] := by unfold mmL; rw [if_neg (by simp [hbad])]
    rw [hr]
    rcases Nat.eq_zero_or_pos ms.length with h0 | h0
    · obtain rfl : ms = [] := List.eq_nil_of_length_eq_zero h0
      have HF := Lib.hid (HE.out _ _ HZ.out.1 HZ.out.2)
      clear hmv hcf hbox hr hblk hbX hrX hmade hbZ hle he h0
      simp only [List.length_nil]
      go_enter Try.func15, Try.ntmps15
      go_wp2_with fail
      refine wp_loop_rounds 1 ?_
      rw [rounds_succ]
      go_wp2_with fail
      go_ret
      exact HF.out
    · have h0' : (0 : Int) < (ms.length : Int) := by omega
      cases hm : mvB s ms
      · rw [hm] at hmv
        have HMV := Lib.hid (fun W h => hmv W h)
        have HF := Lib.hid (HE.out _ _ HZ.out.1 HZ.out.2)
        have HRZ := Lib.hid (row_on HRX.out HZ.out.2)
        clear hmv hcf hbox hr hblk hbX hrX hmade hbZ hle he h0
        go_enter Try.func15, Try.ntmps15
        go_wp2_with fail
        refine wp_loop_rounds 1 ?_
        rw [rounds_succ]
        go_wp2_with fail
        refine (HMV.out _ HRZ.out).mono ?_
        rintro e w' ⟨rfl, rfl⟩
        go_wp2_with fail
        go_ret
        exact HF.out
      · have hf : fitB s put a c = false := by rw [hm] at hbad; simpa using hbad
        rw [hm] at hmv
        rw [hf] at hcf
        have HMV := Lib.hid (fun W h => hmv W h)
        have HCF := Lib.hid hcf
        have HRZ := Lib.hid (row_on HRX.out HZ.out.2)
        obtain ⟨k0, k1, k2⟩ := HBOX.out Z HZ.out.2
        clear hmv hcf hbox hr hblk hbX hrX hmade hbZ hle he h0
        go_enter Try.func15, Try.ntmps15
        go_wp2_with fail
        refine wp_loop_rounds 1 ?_
        rw [rounds_succ]
        go_wp2_with fail
        refine (HMV.out _ HRZ.out).mono ?_
        rintro e w' ⟨rfl, rfl⟩
        go_wp2_with fail
        refine (HCF.out _).mono ?_
        rintro e W2 ⟨rfl, hb2⟩
        have HF := Lib.hid (HE.out _ _ (own_below HZ.out.1 hb2) (HZ.out.2.trans (hb2.mono HZ.out.2.size)))
        go_wp2_with fail
        go_ret
        exact HF.out
  · rw [hm] at hmv
    rw [hf] at hcf
    have hib : inB s a c = true ∧ valid (apX s put a c).data.toList = true := by unfold fitB at hf; simpa using hf
    obtain ⟨p, q, rfl, hce, hpq, hqs, hv, hap⟩ := inB_nat hib.1
    have h120 := valid_size hv
    have hvx := hib.2
    rw [hap] at hvx
    have hpz : put.size ≤ 120 := by
      have h1 := valid_size hvx
      rw [ac_size s put hpq hqs] at h1
      omega
    obtain ⟨cn, hcn⟩ : ∃ cn : Nat, c = (cn : Int) := ⟨q - p, by omega⟩
    subst hcn
    have hall : ∀ k (hk : k < ms.length), ∃ m : Nat, ms[k].1 = (m : Int) ∧ m ≤ 120 := fun k hk => by
      have h1 : allM s.size ms = true := by unfold mvB at hm; rw [Bool.and_eq_true, Bool.and_eq_true] at hm; exact hm.1.2
      have h2 := allM_iff.1 h1 _ (List.getElem_mem hk)
      have h3 : 0 ≤ ms[k].1 ∧ ms[k].1 ≤ (s.size : Int) := by simpa [inI] using h2
      exact ⟨ms[k].1.toNat, by omega, by omega⟩
    have hmp := fun (m : Nat) (b : Bool) (hm : m ≤ 120) W => sMP_any put p cn m b W (by omega) (by omega) hm hpz
    have hr : mmL s put p cn ms = ms.map fun m => (mvI p cn put.size m.1 m.2, m.2) := by unfold mmL; rw [hm, hf]; rfl
    have htk := fun k (hk : k < ms.length) (m : Int) (b : Bool) (e : ms[k] = (m, b)) => mm_take (p : Int) (cn : Int) (put.size : Int) hk e
    rw [hr]
    obtain ⟨F, hF⟩ : ∃ F : Nat → List (Int × Bool), F = fun k => (ms.take k).map fun m => (mvI p cn put.size m.1 m.2, m.2) := ⟨_, rfl⟩
    have hFl : ∀ k, k ≤ ms.length → (F k).length = k := fun k hk => by rw [hF]; simp; omega
    have hF0 : F 0 = [] := by rw [hF]; simp
    have hFn : F ms.length = ms.map fun m => (mvI p cn put.size m.1 m.2, m.2) := by rw [hF]; simp
    have hFs : ∀ k (hk : k < ms.length) (m : Int) (b : Bool), ms[k] = (m, b) → mks (F k) ++ [.int .i64 (mvI p cn put.size m b), .bool b] = mks (F (k + 1)) := fun k hk m b e => by rw [hF]; exact htk k hk m b e
    rw [← hFn]
    have HFL := Lib.hid hFl
    have HFS := Lib.hid hFs
    have HF0 := Lib.hid hF0
    have HALL := Lib.hid hall
    have HMP := Lib.hid hmp
    have HMV := Lib.hid (fun W h => hmv W h)
    have HCF := Lib.hid hcf
    obtain ⟨i0, hi, hz0, hz1, hz2⟩ := info_parts2 infoMark
    clear hmv hcf hbox hblk hbX hrX hib hce hap hvx hall hmp hr htk hF hFl hFs hF0 hFn hm hf hv hmade hbZ hle he HE
    go_enter Try.func15, Try.ntmps15
    go_wp2_with fail
    go_loopw [7, 8] (fun ov iv wr => ∃ k : Nat, k ≤ ms.length ∧ iv = .int .i64 k ∧ wr.ownsRow X.heap.size 46 2 ov k (mks (F k)) ∧ Below X.heap.size X wr ∧ X.heap.size ≤ wr.heap.size) (fun _ iv _ => ms.length - (intOf iv).toNat)
    case atStart => exact ⟨0, Nat.zero_le _, rfl, by rw [HF0.out]; exact HZ.out.1, HZ.out.2, HZ.out.2.size⟩
    case round =>
      obtain ⟨k, hk, rfl, hown, hbw, hBz⟩ := hrel
      by_cases hkx : k < ms.length
      · obtain ⟨m, hm1, hm2⟩ := HALL.out k hkx
        obtain ⟨g, o, rfl, hgb, c0, c1⟩ := HRX.out.mark hkx
        have hrw := (HRX.out.below hbw).more hBz
        have hst := HFS.out k hkx ms[k].1 ms[k].2 rfl
        rw [hm1] at c0 hst
        generalize (ms[k]'hkx).2 = b at *
        have hmp := fun W => HMP.out m b hm2 W
        generalize mvI p cn put.size m b = r at *
        have hk' : (k : Int) < (ms.length : Int) := by omega
        have hk0 : (0 : Int) ≤ (k : Int) := by omega
        have HST := Lib.hid hst
        have HMPK := Lib.hid hmp
        obtain ⟨kk0, kk1, kk2⟩ := HBOX.out wr hbw
        have HOW := Lib.hid hown
        have HBW := Lib.hid hbw
        clear hst hmp hown hbw
        go_wp2_with fail
        refine (HMV.out _ hrw).mono ?_
        rintro e w' ⟨rfl, rfl⟩
        go_wp2_with fail
        refine (HCF.out _).mono ?_
        rintro e Y ⟨rfl, hbY0⟩
        have hbY : Below X.heap.size X Y := HBW.out.trans (hbY0.mono hBz)
        obtain ⟨b0, b1, b2⟩ := HBOX.out Y hbY
        have m0 : Y.cell? ⟨g, o + k * 2, none⟩ = some (.int .i64 m) := (hbY.cell (p := ⟨g, o + k * 2, none⟩) hgb).trans c0
        have m1 : Y.cell? ⟨g, o + k * 2 + 1, none⟩ = some (.bool b) := (hbY.cell (p := ⟨g, o + k * 2 + 1, none⟩) hgb).trans c1
        have hownY := own_below HOW.out hbY0
        have hzY := hbY.size
        have hcell : ∀ W, Below X.heap.size X W → W.cell? ⟨g, o + k * 2, none⟩ = some (.int .i64 m) ∧ W.cell? ⟨g, o + k * 2 + 1, none⟩ = some (.bool b) := fun W hb => ⟨(hb.cell (p := ⟨g, o + k * 2, none⟩) hgb).trans c0, (hb.cell (p := ⟨g, o + k * 2 + 1, none⟩) hgb).trans c1⟩
        have HCELL := Lib.hid hcell
        clear hcell hrw kk0 kk1 kk2 hbY0
        go_wp2_with fail
        go_region_held3 (fun w' => w'.cell? ⟨w.heap.size, 0, none⟩ = some (.int .i64 p) ∧ w'.cell? ⟨w.heap.size, 1, none⟩ = some (.int .i64 cn) ∧ w'.cell? ⟨w.heap.size, 2, none⟩ = some (.string put) ∧ w'.cell? ⟨g, o + k * 2, none⟩ = some (.int .i64 m) ∧ w'.cell? ⟨g, o + k * 2 + 1, none⟩ = some (.bool b)) (go_keep)
          (first
            | (go_at_call 35; refine (HMPK.out _).mono ?_; rintro e w1 ⟨rfl, hb1⟩; have hbx : Below Y.heap.size Y w1 := (drewN_on Y 1).trans (show Below (Y.drewN 1).heap.size (Y.drewN 1) w1 from hb1); have own1 := own_below hownY hbx; have hbx2 : Below X.heap.size X w1 := hbY.trans (hbx.mono hzY); obtain ⟨b0', b1', b2'⟩ := HBOX.out _ hbx2; obtain ⟨m0', m1'⟩ := HCELL.out _ hbx2; have hs1 := hbx.size)
            | (have hx := own1; refine step_append_at (by rfl) _ _ _ (by rfl) X.heap.size 46 i0 (.agg #[.int .i64 0, .bool false]) 2 16 Try.underlying34 hi hz0 hz1 hz2 rfl (by omega) _ k (mks (F k)) (by rfl) (own1.alloc (.cells #[.int .i64 r, .bool b] 46)) ⟨w1.heap.size, 0, none⟩ 1 1 [.int .i64 r, .bool b] (by rfl) rfl (newsM w1 46 _ _) (onesM _ _) (by unfold maxLen; omega) (by omega) (by simp; omega) ?_; intro A2 cap2 w2 hown2 hg2 hat2; have hbz : Below X.heap.size X w2 := (hbx2.alloc (by omega) (.cells #[.int .i64 r, .bool b] 46)).grown hg2 (by simp; omega) (fun q hq => ((own1.alloc (.cells #[.int .i64 r, .bool b] 46)).lt q hq).1); obtain ⟨z0, z1, z2⟩ := HBOX.out _ hbz; obtain ⟨y0, y1⟩ := HCELL.out _ hbz)
            | fail)
        all_goals
          rw [HST.out] at hown2
          have HF := Lib.hid (And.intro hown2 (And.intro hbz hbz.size))
          clear hown2 hg2 hat2 hbz own1 hbx hownY hbY
          go_wp2_with fail
          go_roundw
          case rel => exact ⟨k + 1, by omega, by go_num, HF.out.1, HF.out.2.1, HF.out.2.2⟩
          case measure => (simp [intOf] <;> omega)
      · obtain rfl : k = ms.length := by omega
        have hk' : decide ((ms.length : Int) < (ms.length : Int)) = false := by simp
        obtain ⟨A6, c6, rfl⟩ := own_form2 hown
        have hl := HFL.out ms.length (Nat.le_refl _)
        have HEE : Hid (MarksPost (F ms.length) w (.returned (.slice A6 ms.length c6)) wr) := Lib.hid (by
          refine ⟨A6, c6, by rw [hl], ?_, HBX.out.trans (hbw.mono HBX.out.size)⟩
          rw [hl]
          exact HLE.out _ _ _ _ hown)
        clear hown hbw hl
        go_wp2_with fail
        go_ret
        exact HEE.out
end Go.Proofs.Ytlnldnenkajcdaa
