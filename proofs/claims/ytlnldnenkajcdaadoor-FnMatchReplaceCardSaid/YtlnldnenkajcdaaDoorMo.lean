/- The contracts of MatchNext, of the program and of the reference. -/
import Derived.Test.YtlnldnenkajcdaaDoorMn
import Derived.Test.YtlnldnenkajcdaaDoorMc
import Derived.Test.YtlnldnenkajcdaaDoorMd
set_option linter.unusedVariables false
set_option linter.unusedSimpArgs false
namespace Go.Proofs.YtlnldnenkajcdaaDoor
open Go.RowKit
/-- A pair and whether it is there is returned; nothing that was there has turned. -/
def PairPost (a b : Int) (ok : Bool) (w : World) (e : Ending) (w' : World) : Prop :=
  e = .returned (.tuple #[.agg #[.int .i64 a, .int .i64 b], .bool ok]) ∧ Below w.heap.size w w'
theorem pair_no {p s : ByteArray} {n : Int} (h : mnOk p s n = false) : mnFrom p s n = 0 ∧ mnTo p s n = 0 ∧ mnOk p s n = false := ⟨(mn_no h).2.1, (mn_no h).2.2, h⟩
set_option maxRecDepth 100000 in
theorem iMN_any (p s : ByteArray) (n : Int) (w : World) (hp : p.size ≤ maxLen) (hs : s.size ≤ maxLen) :
    Calls Tryd.prog 38 #[.string p, .string s, .int .i64 n] w (PairPost (mnFrom p s n) (mnTo p s n) (mnOk p s n) w) := by
  have hs' := hs
  unfold maxLen at hs'
  by_cases hok : meOk p s n = true
  · obtain ⟨hpv, hpl⟩ : patV p = true ∧ place s n = true := by simpa [meOk] using hok
    obtain ⟨m, rfl, hm⟩ := place_nat hpl
    have H0 := Lib.hid (MnInv.start (p := p) hpl hm)
    have hsz := valid_size (placeS hpl).1
    clear hok
    go_enter Tryd.func38, Tryd.ntmps38
    go_wp2_with fail
    refine (iPV_any _ _ hp).mono ?_
    rintro e w' ⟨rfl, rfl⟩
    go_wp2_with fail
    refine (iPl_any _ _ _ hs).mono ?_
    rintro e w' ⟨rfl, rfl⟩
    have hb0 : Below w.heap.size w (w.alloc (.cells #[.int .i64 0, .int .i64 0] 39)) := (Below.refl w.heap.size w).alloc (Nat.le_refl _) _
    have hr0 := heap_alloc_new w (.cells #[.int .i64 0, .int .i64 0] 39)
    have HB0 := Lib.hid (And.intro hb0 hr0)
    clear hb0 hr0
    go_wp2_with fail
    go_loopw [2] (fun kv wr => ∃ k : Nat, kv = .int .i64 k ∧ MnInv p s m k ∧ Below w.heap.size w wr ∧ wr.heap[w.heap.size]? = some (.cells #[.int .i64 0, .int .i64 0] 39 (0, 0))) (fun kv _ => s.size + 1 - (intOf kv).toNat)
    case atStart => exact ⟨m, rfl, H0.out, HB0.out.1, HB0.out.2⟩
    case round =>
      obtain ⟨k, rfl, hinv, hb, hr⟩ := hrel
      have c0 : wr.cell? ⟨w.heap.size, 0, none⟩ = some (.int .i64 0) := cell_of_row wr _ 0 _ _ _ hr
      have c1 : wr.cell? ⟨w.heap.size, 1, none⟩ = some (.int .i64 0) := cell_of_row wr _ 1 _ _ _ hr
      have f0 : wr.frozen? ⟨w.heap.size, 0, none⟩ = false := by simp [World.frozen?, hr]
      have f1 : wr.frozen? ⟨w.heap.size, 1, none⟩ = false := by simp [World.frozen?, hr]
      have hdone := fun (hk : ¬ k ≤ s.size) => pair_no (hinv.done hk)
      by_cases hks : k ≤ s.size
      · have hks' : (k : Int) ≤ (s.size : Int) := by omega
        have hwr := World.block_lt_of_cell? wr _ c0
        go_wp2_with fail
        refine (iME_any p s k _ hp hs).mono ?_
        rintro e W2 ⟨rfl, hb2⟩
        have hbn := hb.trans (hb2.mono hb.size)
        have hr2 : W2.heap[w.heap.size]? = some (.cells #[.int .i64 0, .int .i64 0] 39 (0, 0)) := (hb2.block _ hwr).trans hr
        have d0 : W2.cell? ⟨w.heap.size, 0, none⟩ = some (.int .i64 0) := cell_of_row W2 _ 0 _ _ _ hr2
        have d1 : W2.cell? ⟨w.heap.size, 1, none⟩ = some (.int .i64 0) := cell_of_row W2 _ 1 _ _ _ hr2
        have g0 : W2.frozen? ⟨w.heap.size, 0, none⟩ = false := by simp [World.frozen?, hr2]
        have g1 : W2.frozen? ⟨w.heap.size, 1, none⟩ = false := by simp [World.frozen?, hr2]
        have hz2 := World.block_lt_of_cell? W2 _ d0
        have hmiss := fun h => hinv.miss hks h
        have hhit := fun h => hinv.hit hks h
        have hbd := me_bound p s k
        generalize meI p s k = x at *
        have HM := Lib.hid hmiss
        have HH := Lib.hid hhit
        have HR := Lib.hid (And.intro hbn hr2)
        clear hmiss hhit hinv hdone hb hb2 hbn hr hr2 c0 c1 f0 f1
        by_cases hx : 0 ≤ x
        · go_wp2_with fail
          obtain ⟨e1, e2, e3⟩ := HH.out hx
          rw [e1, e2, e3]
          exact bodyPost_ret (v := .tuple #[.agg #[.int .i64 k, .int .i64 x], .bool true]) (by simp [results, Tryd.results38, go_sem, d0, d1, g0, g1, hz2]) rfl ⟨rfl, (HR.out.1.setCell (p := ⟨w.heap.size, 0, none⟩) (Nat.le_refl _) _).setCell (p := ⟨w.heap.size, 1, none⟩) (Nat.le_refl _) _⟩
        · go_wp2_with fail
          go_roundw
          case rel => exact ⟨k + 1, by go_num, HM.out (by omega), HR.out.1, HR.out.2⟩
          case measure => (simp [intOf] <;> omega)
      · have HD := Lib.hid (hdone hks)
        have hwr := World.block_lt_of_cell? wr _ c0
        clear hdone hinv hr
        go_wp2_with fail
        obtain ⟨e1, e2, e3⟩ := HD.out
        rw [e1, e2, e3]
        exact bodyPost_ret (v := .tuple #[.agg #[.int .i64 0, .int .i64 0], .bool false]) (by simp [results, Tryd.results38, go_sem, c0, c1, f0, f1, hwr]) rfl ⟨rfl, (hb.setCell (p := ⟨w.heap.size, 0, none⟩) (Nat.le_refl _) _).setCell (p := ⟨w.heap.size, 1, none⟩) (Nat.le_refl _) _⟩
  · have hcs : patV p = false ∨ (patV p = true ∧ place s n = false) := by
      cases h1 : patV p
      · exact .inl rfl
      · refine .inr ⟨rfl, ?_⟩
        simpa [meOk, h1] using hok
    have hno : mnOk p s n = false := by
      rcases hcs with h | ⟨_, h⟩
      · exact mn_pat h
      · exact mn_place h
    obtain ⟨e1, e2, e3⟩ := pair_no hno
    rw [e1, e2, e3]
    clear hok hno e1 e2 e3
    rcases hcs with h1 | ⟨h1, h2⟩
    · go_enter Tryd.func38, Tryd.ntmps38
      go_wp2_with fail
      refine (iPV_any _ _ hp).mono ?_
      rintro e w' ⟨rfl, rfl⟩
      go_wp2_with fail
      exact bodyPost_ret (v := .tuple #[.agg #[.int .i64 0, .int .i64 0], .bool false]) (by simp [results, Tryd.results38, go_sem]) rfl ⟨rfl, (Below.refl _ _).alloc (Nat.le_refl _) _⟩
    · go_enter Tryd.func38, Tryd.ntmps38
      go_wp2_with fail
      refine (iPV_any _ _ hp).mono ?_
      rintro e w' ⟨rfl, rfl⟩
      go_wp2_with fail
      refine (iPl_any _ _ _ hs).mono ?_
      rintro e w' ⟨rfl, rfl⟩
      go_wp2_with fail
      exact bodyPost_ret (v := .tuple #[.agg #[.int .i64 0, .int .i64 0], .bool false]) (by simp [results, Tryd.results38, go_sem]) rfl ⟨rfl, (Below.refl _ _).alloc (Nat.le_refl _) _⟩
set_option maxRecDepth 100000 in
theorem sMN_any (p s : ByteArray) (n : Int) (w : World) (hp : p.size ≤ maxLen) (hs : s.size ≤ maxLen) :
    Calls Tryd.prog 44 #[.string p, .string s, .int .i64 n] w (PairPost (mnFrom p s n) (mnTo p s n) (mnOk p s n) w) := by
  have hs' := hs
  unfold maxLen at hs'
  by_cases hpl : place s n = true
  · obtain ⟨hv, hin⟩ := placeS hpl
    obtain ⟨m, rfl, hm⟩ := place_nat hpl
    have H0 := Lib.hid (MnInv.start (p := p) hpl hm)
    have hsz := valid_size (placeS hpl).1
    clear hpl
    go_enter Tryd.func44, Tryd.ntmps44
    have hb0 : Below w.heap.size w (w.alloc (.cells #[.int .i64 0, .int .i64 0] 39)) := (Below.refl w.heap.size w).alloc (Nat.le_refl _) _
    have hr0 := heap_alloc_new w (.cells #[.int .i64 0, .int .i64 0] 39)
    have HB0 := Lib.hid (And.intro hb0 hr0)
    clear hb0 hr0
    go_wp2_with fail
    go_loopw [8] (fun kv wr => ∃ k : Nat, kv = .int .i64 k ∧ MnInv p s m k ∧ Below w.heap.size w wr ∧ wr.heap[w.heap.size]? = some (.cells #[.int .i64 0, .int .i64 0] 39 (0, 0))) (fun kv _ => s.size + 1 - (intOf kv).toNat)
    case atStart => exact ⟨m, rfl, H0.out, HB0.out.1, HB0.out.2⟩
    case round =>
      obtain ⟨k, rfl, hinv, hb, hr⟩ := hrel
      have c0 : wr.cell? ⟨w.heap.size, 0, none⟩ = some (.int .i64 0) := cell_of_row wr _ 0 _ _ _ hr
      have c1 : wr.cell? ⟨w.heap.size, 1, none⟩ = some (.int .i64 0) := cell_of_row wr _ 1 _ _ _ hr
      have f0 : wr.frozen? ⟨w.heap.size, 0, none⟩ = false := by simp [World.frozen?, hr]
      have f1 : wr.frozen? ⟨w.heap.size, 1, none⟩ = false := by simp [World.frozen?, hr]
      have hdone := fun (hk : ¬ k ≤ s.size) => pair_no (hinv.done hk)
      have hwr := World.block_lt_of_cell? wr _ c0
      by_cases hks : k ≤ s.size
      · have hks' : (k : Int) ≤ (s.size : Int) := by omega
        go_wp2_with fail
        refine (sTV_any _ _ hs).mono ?_
        rintro e w' ⟨rfl, rfl⟩
        go_wp2_with fail
        refine (l1In_any _ _ _ _).mono ?_
        rintro e w' ⟨rfl, rfl⟩
        go_wp2_with fail
        refine (sME_any p s k _ hp hs).mono ?_
        rintro e W2 ⟨rfl, hb2⟩
        have hbn := hb.trans (hb2.mono hb.size)
        have hr2 : W2.heap[w.heap.size]? = some (.cells #[.int .i64 0, .int .i64 0] 39 (0, 0)) := (hb2.block _ hwr).trans hr
        have d0 : W2.cell? ⟨w.heap.size, 0, none⟩ = some (.int .i64 0) := cell_of_row W2 _ 0 _ _ _ hr2
        have d1 : W2.cell? ⟨w.heap.size, 1, none⟩ = some (.int .i64 0) := cell_of_row W2 _ 1 _ _ _ hr2
        have g0 : W2.frozen? ⟨w.heap.size, 0, none⟩ = false := by simp [World.frozen?, hr2]
        have g1 : W2.frozen? ⟨w.heap.size, 1, none⟩ = false := by simp [World.frozen?, hr2]
        have hz2 := World.block_lt_of_cell? W2 _ d0
        have hmiss := fun h => hinv.miss hks h
        have hhit := fun h => hinv.hit hks h
        have hbd := me_bound p s k
        generalize meI p s k = x at *
        have HM := Lib.hid hmiss
        have HH := Lib.hid hhit
        have HR := Lib.hid (And.intro hbn hr2)
        clear hmiss hhit hinv hdone hb hb2 hbn hr hr2 c0 c1 f0 f1
        by_cases hx : 0 ≤ x
        · go_wp2_with fail
          obtain ⟨e1, e2, e3⟩ := HH.out hx
          rw [e1, e2, e3]
          exact bodyPost_ret (v := .tuple #[.agg #[.int .i64 k, .int .i64 x], .bool true]) (by simp [results, Tryd.results44, go_sem, d0, d1, g0, g1, hz2]) rfl ⟨rfl, (HR.out.1.setCell (p := ⟨w.heap.size, 0, none⟩) (Nat.le_refl _) _).setCell (p := ⟨w.heap.size, 1, none⟩) (Nat.le_refl _) _⟩
        · go_wp2_with fail
          go_roundw
          case rel => exact ⟨k + 1, by go_num, HM.out (by omega), HR.out.1, HR.out.2⟩
          case measure => (simp [intOf] <;> omega)
      · have HD := Lib.hid (hdone hks)
        clear hdone hinv hr
        go_wp2_with fail
        refine (sTV_any _ _ hs).mono ?_
        rintro e w' ⟨rfl, rfl⟩
        go_wp2_with fail
        refine (l1In_any _ _ _ _).mono ?_
        rintro e w' ⟨rfl, rfl⟩
        go_wp2_with fail
        obtain ⟨e1, e2, e3⟩ := HD.out
        rw [e1, e2, e3]
        exact bodyPost_ret (v := .tuple #[.agg #[.int .i64 0, .int .i64 0], .bool false]) (by simp [results, Tryd.results44, go_sem, c0, c1, f0, f1, hwr]) rfl ⟨rfl, (hb.setCell (p := ⟨w.heap.size, 0, none⟩) (Nat.le_refl _) _).setCell (p := ⟨w.heap.size, 1, none⟩) (Nat.le_refl _) _⟩
  · obtain ⟨e1, e2, e3⟩ := pair_no (mn_place (p := p) (show place s n = false by simpa using hpl))
    rw [e1, e2, e3]
    clear e1 e2 e3
    rcases placeF hpl with h3 | ⟨h3, h4⟩
    · clear hpl
      go_enter Tryd.func44, Tryd.ntmps44
      go_wp2_with fail
      refine wp_loop_rounds 1 ?_
      rw [rounds_succ]
      go_wp2_with fail
      refine (sTV_any _ _ hs).mono ?_
      rintro e w' ⟨rfl, rfl⟩
      go_wp2_with fail
      exact bodyPost_ret (v := .tuple #[.agg #[.int .i64 0, .int .i64 0], .bool false]) (by simp [results, Tryd.results44, go_sem]) rfl ⟨rfl, (Below.refl _ _).alloc (Nat.le_refl _) _⟩
    · clear hpl
      go_enter Tryd.func44, Tryd.ntmps44
      go_wp2_with fail
      refine wp_loop_rounds 1 ?_
      rw [rounds_succ]
      go_wp2_with fail
      refine (sTV_any _ _ hs).mono ?_
      rintro e w' ⟨rfl, rfl⟩
      go_wp2_with fail
      refine (l1In_any _ _ _ _).mono ?_
      rintro e w' ⟨rfl, rfl⟩
      go_wp2_with fail
      exact bodyPost_ret (v := .tuple #[.agg #[.int .i64 0, .int .i64 0], .bool false]) (by simp [results, Tryd.results44, go_sem]) rfl ⟨rfl, (Below.refl _ _).alloc (Nat.le_refl _) _⟩
end Go.Proofs.YtlnldnenkajcdaaDoor
