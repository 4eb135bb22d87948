/- The contract of the reference's Selected. -/
import Derived.Test.YtmdjmaijennmkaaSe
set_option linter.unusedVariables false
set_option linter.unusedSimpArgs false
namespace Go.Proofs.Ytmdjmaijennmkaa
open Go.RowKit Go.Sort
set_option maxRecDepth 100000 in
theorem sSe_any (s : ByteArray) (A : Option Addr) (n c : Nat) (ps : List (Int × Int)) (w : World) (hs : s.size ≤ maxLen) (h : Row w w.heap.size A (pairs ps)) (hn : ps.length = n) (hmax : n ≤ 3000000) :
    Calls Try.prog 19 #[.string s, .slice A n c] w (StrsPost (seL s ps) w) := by
  have hs' := hs
  unfold maxLen at hs'
  subst hn
  obtain ⟨B, hB⟩ : ∃ B, w.heap.size = B := ⟨_, rfl⟩
  have hmade : (w.alloc (.cells #[] 9)).ownsRow B 9 1 (.slice (some ⟨w.heap.size, 0, none⟩) 0 0) 0 [] := World.ownsRow_made w #[] 0 (by omega) (by decide) rfl
  have hbm : Below B w (w.alloc (.cells #[] 9)) := (Below.refl _ _).alloc (by omega) _
  rw [hB] at h
  have hrm := h.below hbm
  have hsm : B ≤ (w.alloc (.cells #[] 9)).heap.size := by simp; omega
  have hcv := fun (W : World) (hbw : Below B w W) (hz : B ≤ W.heap.size) => sCV_any s A _ c ps W hs ((h.below hbw).more hz) rfl hmax
  have HB := Lib.hid hB
  have HM := Lib.hid (And.intro hmade (And.intro hbm hsm))
  clear hB hmade hbm hsm hrm
  cases hok : cuV s ps
  · have hnil : seL s ps = [] := by unfold seL; rw [hok]; rfl
    rw [hnil]
    rw [hok] at hcv
    have HCV := Lib.hid hcv
    clear hcv hnil hok
    have he : Hid (∀ (v : Value) (W W' : World), W.ownsRow B 9 1 v 0 [] → Below B w W → B ≤ W.heap.size → Below W.heap.size W W' → StrsPost [] w (.returned v) W') := Lib.hid (fun v W W' h1 h2 h3 h4 => by
      obtain ⟨A, c, rfl⟩ := own_form2 h1
      have := HB.out
      subst this
      exact ⟨A, c, rfl, own_below1 h1 h4, h2.trans (h4.mono h3)⟩)
    go_enter Try.func19, Try.ntmps19
    go_wp2_with fail
    refine wp_loop_rounds 1 ?_
    rw [rounds_succ]
    by_cases h0 : 0 < ps.length
    · have h0' : (0 : Int) < (ps.length : Int) := by omega
      go_wp2_with fail
      refine (HCV.out _ HM.out.2.1 HM.out.2.2).mono ?_
      rintro e W1 ⟨rfl, hb1⟩
      have HF := Lib.hid (he.out _ _ _ HM.out.1 HM.out.2.1 HM.out.2.2 hb1)
      clear hb1
      go_wp2_with fail
      go_ret
      exact HF.out
    · have h0' : decide ((0 : Int) < (ps.length : Int)) = false := decide_eq_false (by omega)
      have HF := Lib.hid (he.out _ _ _ HM.out.1 HM.out.2.1 HM.out.2.2 (Below.refl _ _))
      go_wp2_with fail
      go_ret
      exact HF.out
  · rw [hok] at hcv
    obtain ⟨i0, hi, hz0, hz1, hz2⟩ := info_parts infoStr
    have hat := fun k hk => se_at hok (k := k) hk
    have hl := se_len hok
    have hle := (plV_iff.1 (cuV_iff.1 hok).2).2.2
    generalize seL s ps = ss at *
    have HCV := Lib.hid hcv
    have HAT := Lib.hid hat
    have HL := Lib.hid hl
    clear hcv hat hl hok
    go_enter Try.func19, Try.ntmps19
    go_wp2_with fail
    go_loopw [5, 6] (fun ov iv wr => ∃ k : Nat, k ≤ ps.length ∧ iv = .int .i64 k ∧ wr.ownsRow B 9 1 ov k (strVals (ss.take k)) ∧ Below B w wr ∧ B ≤ wr.heap.size) (fun _ iv _ => ps.length - (intOf iv).toNat)
    case atStart => exact ⟨0, Nat.zero_le _, rfl, HM.out.1, HM.out.2.1, HM.out.2.2⟩
    case round =>
      obtain ⟨k, hk, rfl, hown, hbw, hsz⟩ := hrel
      by_cases hkx : k < ps.length
      · obtain ⟨a, b, g1, g2, g3, g4, g5⟩ := HAT.out k hkx
        obtain ⟨g, o, rfl, hbb, c0, c1⟩ := (h.below hbw).pair hkx
        generalize (ps[k]'hkx) = y at c0 c1 g1 g2
        obtain ⟨y1, y2⟩ := y
        simp only at c0 c1
        have hk' : (k : Int) < (ps.length : Int) := by omega
        have hk0 : (0 : Int) ≤ (k : Int) := by omega
        have ha0 : (0 : Int) ≤ (a : Int) := by omega
        have hab : (a : Int) ≤ (b : Int) := by omega
        have hbs : (b : Int) ≤ (s.size : Int) := by omega
        have HT := Lib.hid (take_str g5)
        have hlc := fun W => l7Lo_any y1 y2 W
        have hhc := fun W => l7Hi_any y1 y2 W
        rw [g1] at hlc
        rw [g2] at hhc
        have hcall := HCV.out wr hbw hsz
        have HOW := Lib.hid (And.intro hown hbw)
        clear g1 g2 g5 hown hbw
        go_wp2_with fail
        refine hcall.mono ?_
        rintro e W1 ⟨rfl, hb1⟩
        have c2 := (hb1.cell (p := ⟨g, o + k * 2, none⟩) (by show g < _; omega)).trans c0
        have c3 := (hb1.cell (p := ⟨g, o + k * 2 + 1, none⟩) (by show g < _; omega)).trans c1
        have hown2 := own_below1 HOW.out.1 hb1
        have hzW := hb1.size
        have HB1 := Lib.hid (HOW.out.2.trans (hb1.mono hsz))
        clear c0 c1 hb1 hcall HOW
        go_wp2_with fail
        have hgz : g < W1.heap.size := by omega
        obtain ⟨O, hO⟩ : ∃ O : Obj, O = .cells #[.int .i64 y1, .int .i64 y2] 44 := ⟨_, rfl⟩
        rw [← hO] at hlc hhc
        have past : ∀ (o1 : Obj) (i : Nat), (((W1.alloc O).alloc O).alloc o1).cell? ⟨g, i, none⟩ = W1.cell? ⟨g, i, none⟩ := fun o1 i => by
          rw [World.cell?_alloc_past _ _ _ (by simp; omega), World.cell?_alloc_past _ _ _ (by simp; omega), World.cell?_alloc_past _ _ _ hgz]
        have past2 : ∀ (i : Nat), ((W1.alloc O).alloc O).cell? ⟨g, i, none⟩ = W1.cell? ⟨g, i, none⟩ := fun i => by
          rw [World.cell?_alloc_past _ _ _ (by simp; omega), World.cell?_alloc_past _ _ _ hgz]
        have past1 : ∀ (i : Nat), (W1.alloc O).cell? ⟨g, i, none⟩ = W1.cell? ⟨g, i, none⟩ := fun i => by
          rw [World.cell?_alloc_past _ _ _ hgz]
        have hown3 := ((hown2.alloc O).alloc O).alloc (.cells #[.string (s.extract a b)] 9)
        have hnew : ((((W1.alloc O).alloc O).alloc (.cells #[.string (s.extract a b)] 9)).drew).heap[W1.heap.size + 1 + 1]? = some (.cells #[.string (s.extract a b)] 9 (0, 0)) := by
          have h1 := heap_alloc_new ((W1.alloc O).alloc O) (.cells #[.string (s.extract a b)] 9)
          have e : ((W1.alloc O).alloc O).heap.size = W1.heap.size + 1 + 1 := by simp
          rw [e] at h1
          exact h1
        have HNEW := Lib.hid hnew
        clear hnew
        have hne : ∀ W' : World, ∀ v : Value, (∀ k, v.ownBlock = some k → B ≤ k) → ∀ W'' : World, W'.grownBy W'' v.ownBlock → g < W'.heap.size → ∀ i, W''.cell? ⟨g, i, none⟩ = W'.cell? ⟨g, i, none⟩ := fun W' v hv W'' hg hl i =>
          hg.cell_far ⟨g, i, none⟩ hl (by intro e; have := hv g e.symm; omega)
        have HO := Lib.hid hO
        clear hO
        go_region_held3 (fun w' => w'.cell? ⟨g, o + k * 2, none⟩ = some (.int .i64 y1) ∧ w'.cell? ⟨g, o + k * 2 + 1, none⟩ = some (.int .i64 y2))
          (go_keep)
          (first
            | (go_at_call 41; refine (hlc _).mono ?_; rintro e w' ⟨rfl, rfl⟩)
            | (go_at_call 42; refine (hhc _).mono ?_; rintro e w' ⟨rfl, rfl⟩)
            | (refine step_append_lies _ (by rfl) _ _ _ (by rfl) B 9 i0 _ 1 16 Try.underlying29 hi hz0 hz1 hz2 rfl (by omega) _ k (strVals (ss.take k)) (by rfl) hown3.drew ⟨W1.heap.size + 1 + 1, 0, none⟩ 1 1 [.string (s.extract a b)] (by rfl) (by rfl) (World.news_of_block (cs := #[.string (s.extract a b)]) (t := 9) (fr := (0, 0)) HNEW.out) (by simp [Value.oneCell']) (by omega) (by unfold maxLen; omega) (by omega) (by simp; omega) (W1.heap.size + 1 + 1 + 1) (by simp) ?_; intro gg cap w1 hown1 hgrow hat hlt; have kk : ∀ i, w1.cell? ⟨g, i, none⟩ = W1.cell? ⟨g, i, none⟩ := fun i => (hne _ _ (fun q hq => (hown2.lt q hq).1) w1 hgrow (by simp; omega) i).trans (past _ i)))
        all_goals
          have hb1 : Below B w w1 := ((((HB1.out.alloc (by omega) O).alloc (by simp; omega) O).alloc (by simp; omega) (.cells #[.string (s.extract a b)] 9)).drew).grown hgrow (by simp; omega) (fun q hq => (hown2.lt q hq).1)
          have hzz : B ≤ w1.heap.size := by have := hgrow.size; simp at this; omega
          rw [HT.out] at hown1
          have HF := Lib.hid (And.intro hown1 (And.intro hb1 hzz))
          clear hown1 hb1 hzz hgrow kk hat hlt
          go_wp2_with fail
          go_roundw
          case rel => exact ⟨k + 1, by omega, by go_num, HF.out.1, HF.out.2.1, HF.out.2.2⟩
          case measure => (simp [intOf] <;> omega)
      · obtain rfl : k = ps.length := by omega
        have HE : Hid (∀ v, v = _ → StrsPost ss w (.returned v) wr) := Lib.hid (strs_end0 hown HL.out.symm HB.out hbw)
        have hk' : decide ((ps.length : Int) < (ps.length : Int)) = false := by simp
        clear hown hbw
        go_wp2_with fail
        go_ret
        exact HE.out _ rfl
end Go.Proofs.Ytmdjmaijennmkaa
