/- The law on CursorsValid, walked. -/
import Derived.Test.YtmdjmaijennmkaaDs
import Derived.Test.YtmdjmaijennmkaaCs
import Derived.Test.YtmdjmaijennmkaaSi
set_option linter.unusedVariables false
set_option linter.unusedSimpArgs false
namespace Go.Proofs.Ytmdjmaijennmkaa
open Go.RowKit Go.Sort
/-- A part of valid cursors is valid. -/
theorem cu_drop {s : ByteArray} {l : List (Int × Int)} (h : cuV s l = true) (k : Nat) : cuV s (l.drop k) = true := by
  obtain ⟨h1, h2⟩ := cuV_iff.1 h
  obtain ⟨h3, h4, h5⟩ := plV_iff.1 h2
  refine cuV_iff.2 ⟨List.Pairwise.sublist (List.drop_sublist _ _) h1, plV_iff.2 ⟨h3, fun c hc => h4 c (List.mem_of_mem_drop hc), by rw [List.length_drop]; omega⟩⟩
/-- With the last one twice they are not. -/
theorem cu_twice (s : ByteArray) (l : List (Int × Int)) {k : Nat} (hk : k < l.length) : cuV s (l ++ [l[k]]) = false := by
  cases h : cuV s (l ++ [l[k]])
  · rfl
  · obtain ⟨h1, _⟩ := cuV_iff.1 h
    have h2 := (List.pairwise_append.1 h1).2.2 l[k] (List.getElem_mem hk) l[k] (by simp)
    have := lo_hi l[k]
    omega
theorem row_drop {W : World} {B : Nat} {A : Option Addr} {l : List (Int × Int)} {b o : Nat} (h : Row W B A (pairs l)) (hA : A = some ⟨b, o, none⟩) (k : Nat) : Row W B (some ⟨b, o + k * 2, none⟩) (pairs (l.drop k)) := by
  intro j u hj
  have e : pairs (l.drop k) = (pairs l).drop (k * 2) := pairs_drop l k
  rw [e, List.getElem?_drop] at hj
  obtain ⟨b', o', h1, h2, h3⟩ := h _ u hj
  rw [hA] at h1
  injection h1 with h1
  injection h1 with h4 h5
  subst h4 h5
  exact ⟨b, o + k * 2, rfl, h2, by rw [Nat.add_assoc]; exact h3⟩
section
variable (W : World) (d1 d2 : Int)
theorem made_own : (W.alloc (.cells #[] 44)).ownsRow W.heap.size 44 2 (.slice (some ⟨W.heap.size, 0, none⟩) 0 0) 0 [] := World.ownsRow_made W #[] 0 (Nat.le_refl _) (by decide) rfl
theorem made_own2 : ((W.alloc (.cells #[.int .i64 d1, .int .i64 d2] 44)).alloc (.cells #[] 44)).ownsRow W.heap.size 44 2 (.slice (some ⟨W.heap.size + 1, 0, none⟩) 0 0) 0 [] := by
  have := World.ownsRow_made (base := W.heap.size) (e := 44) (size := 2) (W.alloc (.cells #[.int .i64 d1, .int .i64 d2] 44)) #[] 0 (by simp) (by decide) rfl
  simpa using this
theorem made_lit : ∀ j u, [Value.int .i64 d1, .int .i64 d2][j]? = some u → ((W.alloc (.cells #[] 44)).alloc (.cells #[.int .i64 d1, .int .i64 d2] 44)).cell? ((⟨W.heap.size + 1, 0, none⟩ : Addr).add j) = some u := fun j u hj => by
  have := news2 (W.alloc (.cells #[] 44)) 44 (.int .i64 d1) (.int .i64 d2) j u hj
  simpa using this
theorem made_lit2 : ∀ j u, [Value.int .i64 d1, .int .i64 d2][j]? = some u → ((W.alloc (.cells #[.int .i64 d1, .int .i64 d2] 44)).alloc (.cells #[] 44)).cell? ((⟨W.heap.size, 0, none⟩ : Addr).add j) = some u := fun j u hj => by
  have := news2 W 44 (.int .i64 d1) (.int .i64 d2) j u hj
  rw [Go.WideShapes.add_plain] at this ⊢
  rw [World.cell?_alloc_past _ _ _ (by simp)]; exact this
theorem lit_far {W W' : World} {v : Value} {bb : Nat} (hg : W.grownBy W' v.ownBlock) (hne : v.ownBlock ≠ some bb) (hl : bb < W.heap.size) (h : ∀ j u, [Value.int .i64 d1, .int .i64 d2][j]? = some u → W.cell? ((⟨bb, 0, none⟩ : Addr).add j) = some u) : ∀ j u, [Value.int .i64 d1, .int .i64 d2][j]? = some u → W'.cell? ((⟨bb, 0, none⟩ : Addr).add j) = some u := fun j u hj => by
  have := h j u hj
  rw [Go.WideShapes.add_plain] at this ⊢
  exact (hg.cell_far _ hl (Ne.symm hne)).trans this
theorem row_news {W W' : World} {g : Nat} {xs : List Value} (h : Row W W.heap.size (some ⟨g, 0, none⟩) xs) (hb : Below W.heap.size W W') : ∀ j u, xs[j]? = some u → W'.cell? ((⟨g, 0, none⟩ : Addr).add j) = some u := fun j u hj => by
  obtain ⟨b, o, e, h1, h2⟩ := (h.below hb) j u hj
  injection e with e
  injection e with e1 e2
  subst e1 e2
  rw [Go.WideShapes.add_plain]
  exact h2
end
section
variable {P : Program} {w : World}
/-- The same for an operation that is wanted. -/
theorem step_append_at_g {ops : Array Oper} {o : Oper} {a : Act} {K : Act → World → Prop} {Q : Exit → Act → World → Prop} {E : Prop} (hw : Region.wanted o (yielded ops a.tmps) = true) (s x : Operand) (t : TypeId)
    (ho : o.op = .call { callee := .builtin .append, args := #[s, x], argTypes := #[t, t] })
    (base : Nat) (e : TypeId) (i : TypeInfo) (z : Value) (size bytes : Nat) (ht : P.underlying t = some (.slice e)) (hi : P.info? e = some i) (hz : i.zero = some z)
    (hsize : i.size = size) (hby : i.bytes = bytes) (hzs : z.cells.size = size) (hsz : 0 < size)
    (v : Value) (n : Nat) (xs : List Value) (hs : a.eval s = v) (hown : w.ownsRow base e size v n xs)
    (ad : Addr) (m c : Nat) (news : List Value) (hx : a.eval x = .slice (some ad) m c) (hl : news.length = m * size) (hnews : ∀ j u, news[j]? = some u → w.cell? (ad.add j) = some u) (h1 : ∀ u ∈ news, u.oneCell' = true)
    (h63 : n + m ≤ maxLen) (hbytes : (n + m) * bytes ≤ 140737488355328) (hbase : base ≤ w.heap.size)
    (h : ∀ A cap w', w'.ownsRow base e size (.slice A (n + m) cap) (n + m) (xs ++ news) → w.grownBy w' v.ownBlock → ((Value.slice A (n + m) cap).ownBlock = v.ownBlock ∨ (Value.slice A (n + m) cap).ownBlock = some w.heap.size) → K (a.put o.dst (.slice A (n + m) cap)) w') :
    if Region.wanted o (yielded ops a.tmps) = true then Oper.wp P o a w K Q else E := by
  rw [if_pos hw]
  obtain ⟨v', w', hr, h2, h3, _, h5⟩ := run_append_own_at (P := P) w base t o.type e i z size bytes ht hi hz hsize hby hzs hsz v n xs hown ad m c news hl hnews h1 h63 hbytes hbase
  obtain ⟨A, cap, rfl⟩ := own_form_any h2
  unfold Oper.wp execOp
  simp only [ho, resolve, invoke, builtin, Sem.run_bind, Sem.run_pure, Result.andThen_ok, List.map_toArray, List.map_cons, List.map_nil, hs, hx, hr]
  exact h A cap w' h2 h3 h5
end
set_option maxHeartbeats 4000000 in
set_option maxRecDepth 100000 in
theorem law_FnCursorsValid (A : Option Addr) (n c : Nat) (zs : List Int) (w : World) (h : IsBytes w A n c zs) :
    Calls Try.prog 8 #[.slice A n c] w fun e w' => e = .returned (.bool true) ∧ Below w.heap.size w w' := by
  have hn0 : n ≤ maxLen := by obtain ⟨_, h1, h2, _⟩ := h; omega
  unfold maxLen at hn0
  by_cases hn : n ≤ 1048576
  rotate_left
  · go_enter Try.func8, Try.ntmps8
    go_wp2
    go_ret
    exact ⟨rfl, Below.refl _ _⟩
  have HD := Lib.hid (dDrawCursorsValid A n c zs w h)
  clear h
  go_enter Try.func8, Try.ntmps8
  go_wp2_with fail
  refine HD.out.mono ?_
  rintro e W1 ⟨s, A1, c1, ys, rfl, hs, hl, ho1, hb1⟩
  have hsm : s.size ≤ maxLen := by unfold maxLen; omega
  have hr1 := Row.of_own2 ho1
  have hform : 0 < ys.length → ∃ g, A1 = some ⟨g, 0, none⟩ ∧ ys.length ≤ c1 := fun h0 => by
    rcases ho1.2 with ⟨e, h1⟩ | ⟨g', c', cur, e, _, _, h4, _⟩
    · injection e with _ e _
      omega
    · injection e with e1 _ e3
      exact ⟨g', e1, by omega⟩
  have hc1 := fun A c W h => iCV_any s A _ c ys W hsm h rfl (by omega)
  have hc2 := fun A c W h => sCV_any s A _ c ys W hsm h rfl (by omega)
  have hdr := fun (h : cuV s ys = true) k => cu_drop h k
  generalize hvv : cuV s ys = vy at *
  have H1 := Lib.hid hc1
  have H2 := Lib.hid hc2
  have HDR := Lib.hid hdr
  have HF := Lib.hid hform
  clear hc1 hc2 ho1 hdr hform
  go_wp2_with fail
  refine (H1.out _ _ _ hr1).mono ?_
  rintro e W2 ⟨rfl, hb2⟩
  have hr12 := row_on hr1 hb2
  have hbw2 := below_on hb1 hb2
  clear hr1 hb1 hb2
  go_wp2_with fail
  refine (H2.out _ _ _ hr12).mono ?_
  rintro e W3 ⟨rfl, hb3⟩
  have hr13 := row_on hr12 hb3
  have hbw3 := below_on hbw2 hb3
  clear hr12 hbw2 hb3 H1 H2
  cases vy
  · go_wp2_with fail
    refine (alive_any _).mono ?_
    rintro e w' ⟨rfl, rfl⟩
    go_wp2_with fail
    go_ret
    exact ⟨rfl, hbw3⟩
  rcases Nat.eq_zero_or_pos ys.length with h0 | h0
  · have h0' : ((ys.length : Int) == 0) = true := by rw [h0]; rfl
    go_wp2_with fail
    refine (alive_any _).mono ?_
    rintro e w' ⟨rfl, rfl⟩
    go_wp2_with fail
    go_ret
    exact ⟨rfl, hbw3⟩
  have h0' : ((ys.length : Int) == 0) = false := beq_eq_false_iff_ne.mpr (by omega)
  obtain ⟨g, rfl, hcap⟩ := HF.out h0
  obtain ⟨i0, hi, hz0, hz1, hz2⟩ := info_parts infoPair
  obtain ⟨L, hL⟩ : ∃ L, ys.length = L + 1 := ⟨ys.length - 1, by omega⟩
  obtain ⟨g', z', hgz, hgl, e0, e1⟩ := hr13.pair (j := L) (by omega)
  injection hgz with hgz
  injection hgz with hg1 hg2
  subst hg1 hg2
  have htw := cu_twice s ys (k := L) (by omega)
  obtain ⟨l0, hl0⟩ : ∃ l0, l0 = ys[L]'(by omega) := ⟨_, rfl⟩
  rw [← hl0] at e0 e1 htw
  obtain ⟨d1, d2⟩ := l0
  simp only [Nat.zero_add] at e0 e1
  obtain ⟨m, hm⟩ : ∃ m, m = ys.length / 2 := ⟨_, rfl⟩
  have hc3 := fun W h => iCV_any s (some ⟨g, m * 2, none⟩) (ys.length - m) (c1 - m) (ys.drop m) W hsm h (by simp) (by omega)
  rw [HDR.out rfl] at hc3
  have hc4 := fun A n c W h (hn : (ys ++ [(d1, d2)]).length = n) => iCV_any s A n c (ys ++ [(d1, d2)]) W hsm h hn (by simp at hn; omega)
  rw [htw] at hc4
  have hrd := row_drop hr13 rfl m
  rw [Nat.zero_add] at hrd
  have H3 := Lib.hid hc3
  have H4 := Lib.hid hc4
  have HRD := Lib.hid hrd
  have HR := Lib.hid hr13
  have hq : (ys.length : Int) / 2 = (m : Int) := by omega
  have hq5 : IntKind.i64.wrap (m : Int) = (m : Int) := IntWalk.i64_in _ (by omega)
  have hq6 : (ys.length : Int) - 1 = (L : Int) := by omega
  have hq7 : IntKind.i64.wrap (L : Int) = (L : Int) := IntWalk.i64_in _ (by omega)
  have hL0 : (0 : Int) ≤ (L : Int) := by omega
  have hL1 : (L : Int) < (ys.length : Int) := by omega
  have hm0 : (0 : Int) ≤ (m : Int) := by omega
  have hm1 : (m : Int) < (c1 : Int) := by omega
  have hm2 : (m : Int) ≤ (ys.length : Int) := by omega
  have hm3 : (m : Int) ≤ (c1 : Int) := by omega
  have hcm : ¬ c1 = m := by omega
  have hcap' : (ys.length : Int) ≤ (c1 : Int) := by omega
  clear hc3 hc4 hrd hr13 HDR htw hl0 HF hm hL
  go_wp2_with fail
  go_region_held3 (fun w' => w'.cell? ⟨g, L * 2, none⟩ = some (.int .i64 d1) ∧ w'.cell? ⟨g, L * 2 + 1, none⟩ = some (.int .i64 d2)) (go_keep)
    (first
      | (go_at_call 17; have hx := hown3; have hlen3 : (ys ++ [(d1, d2)]).length = ys.length + 1 := (by simp); have hr3 : Row w3 w3.heap.size A3 (pairs (ys ++ [(d1, d2)])) := (by rw [pairs_snoc]; exact Row.of_own2 hown3); refine (H4.out _ _ _ _ hr3 hlen3).mono ?_; rintro e w4 ⟨rfl, hb4⟩; have hb5 : Below w1.heap.size w1 w4 := hb3.trans (hb4.mono hb3.size); have z40 := hc0 _ hb5; have z41 := hc1 _ hb5)
      | (go_at_call 17; refine (H3.out W3.drew (show Row W3.drew W3.drew.heap.size _ _ from HRD.out)).mono ?_; rintro e w1 ⟨rfl, hb1⟩; have hbx : Below W3.heap.size W3 w1 := (drewN_on W3 1).trans (show Below (W3.drewN 1).heap.size (W3.drewN 1) w1 from hb1); have HR1 := Lib.hid (row_on HR.out hbx); have hbw1 := below_on hbw3 hbx; have p0 : w1.cell? ⟨g, L * 2, none⟩ = some (.int .i64 d1) := (hb1.cell (p := ⟨g, L * 2, none⟩) hgl).trans e0; have p1 : w1.cell? ⟨g, L * 2 + 1, none⟩ = some (.int .i64 d2) := (hb1.cell (p := ⟨g, L * 2 + 1, none⟩) hgl).trans e1; have hg1 : g < w1.heap.size := Nat.lt_of_lt_of_le hgl hb1.size; have hc0 : ∀ W', Below w1.heap.size w1 W' → W'.cell? ⟨g, L * 2, none⟩ = some (.int .i64 d1) := fun W' hb => (hb.cell (p := ⟨g, L * 2, none⟩) hg1).trans p0; have hc1 : ∀ W', Below w1.heap.size w1 W' → W'.cell? ⟨g, L * 2 + 1, none⟩ = some (.int .i64 d2) := fun W' hb => (hb.cell (p := ⟨g, L * 2 + 1, none⟩) hg1).trans p1; have hb_a : Below w1.heap.size w1 (w1.alloc (.cells #[] 44)) := (Below.refl _ _).alloc (Nat.le_refl _) (.cells #[] 44); have hb_b : Below w1.heap.size w1 ((w1.alloc (.cells #[] 44)).alloc (.cells #[.int .i64 d1, .int .i64 d2] 44)) := hb_a.alloc (by simp) (.cells #[.int .i64 d1, .int .i64 d2] 44); have hb_c : Below w1.heap.size w1 (w1.alloc (.cells #[.int .i64 d1, .int .i64 d2] 44)) := (Below.refl _ _).alloc (Nat.le_refl _) (.cells #[.int .i64 d1, .int .i64 d2] 44); have hb_d : Below w1.heap.size w1 ((w1.alloc (.cells #[.int .i64 d1, .int .i64 d2] 44)).alloc (.cells #[] 44)) := hb_c.alloc (by simp) (.cells #[] 44); have a0 := hc0 _ hb_a; have a1 := hc1 _ hb_a; have b0 := hc0 _ hb_b; have b1 := hc1 _ hb_b; have c0' := hc0 _ hb_c; have c1' := hc1 _ hb_c; have d0' := hc0 _ hb_d; have d1' := hc1 _ hb_d; have hoA := made_own w1; have hoB := hoA.alloc (.cells #[.int .i64 d1, .int .i64 d2] 44); have hoD := made_own2 w1 d1 d2; have hlen2 := pairs_len ys)
      | (have hw2 := hb2.size; refine step_append_at_g (by rfl) _ _ _ (by rfl) w1.heap.size 44 i0 (.agg #[.int .i64 0, .int .i64 0]) 2 16 Try.underlying25 hi hz0 hz1 hz2 rfl (by omega) _ ys.length (pairs ys) (by rfl) (hown2.alloc (.cells #[.int .i64 d1, .int .i64 d2] 44)) ⟨w2.heap.size, 0, none⟩ 1 1 [.int .i64 d1, .int .i64 d2] (by rfl) rfl (news2 w2 44 _ _) (ones2 _ _) (by unfold maxLen; omega) (by omega) (hb2.alloc hb2.size (.cells #[.int .i64 d1, .int .i64 d2] 44)).size ?_; intro A3 cap3 w3 hown3 hg3 hat3; have hb3 : Below w1.heap.size w1 w3 := (hb2.alloc hb2.size (.cells #[.int .i64 d1, .int .i64 d2] 44)).grown hg3 (hb2.alloc hb2.size (.cells #[.int .i64 d1, .int .i64 d2] 44)).size (fun q hq => (hown2.lt q hq).1); have z30 := hc0 _ hb3; have z31 := hc1 _ hb3)
      | (have hw2 := hb2.size; refine step_append_at_g (by rfl) _ _ _ (by rfl) w1.heap.size 44 i0 (.agg #[.int .i64 0, .int .i64 0]) 2 16 Try.underlying25 hi hz0 hz1 hz2 rfl (by omega) _ ys.length (pairs ys) (by rfl) hown2 ⟨w1.heap.size + 1, 0, none⟩ 1 1 [.int .i64 d1, .int .i64 d2] (by rfl) rfl hnB1 (ones2 _ _) (by unfold maxLen; omega) (by omega) (hb2).size ?_; intro A3 cap3 w3 hown3 hg3 hat3; have hb3 : Below w1.heap.size w1 w3 := (hb2).grown hg3 (hb2).size (fun q hq => (hown2.lt q hq).1); have z30 := hc0 _ hb3; have z31 := hc1 _ hb3)
      | (have hw2 := hb2.size; refine step_append_at_g (by rfl) _ _ _ (by rfl) w1.heap.size 44 i0 (.agg #[.int .i64 0, .int .i64 0]) 2 16 Try.underlying25 hi hz0 hz1 hz2 rfl (by omega) _ ys.length (pairs ys) (by rfl) hown2 ⟨w1.heap.size, 0, none⟩ 1 1 [.int .i64 d1, .int .i64 d2] (by rfl) rfl hnD1 (ones2 _ _) (by unfold maxLen; omega) (by omega) (hb2).size ?_; intro A3 cap3 w3 hown3 hg3 hat3; have hb3 : Below w1.heap.size w1 w3 := (hb2).grown hg3 (hb2).size (fun q hq => (hown2.lt q hq).1); have z30 := hc0 _ hb3; have z31 := hc1 _ hb3)
      | (refine step_append_at_g (by rfl) _ _ _ (by rfl) w1.heap.size 44 i0 (.agg #[.int .i64 0, .int .i64 0]) 2 16 Try.underlying25 hi hz0 hz1 hz2 rfl (by omega) _ 0 [] (by rfl) hoA ⟨g, 0, none⟩ ys.length c1 (pairs ys) (by rfl) hlen2 (row_news HR1.out hb_a) (pairs_ones _) (by unfold maxLen; omega) (by omega) hb_a.size ?_; intro A2 cap2 w2 hown2 hg2 hat2; simp only [Nat.zero_add, List.nil_append] at hown2 ⊢; have hb2 : Below w1.heap.size w1 w2 := hb_a.grown hg2 hb_a.size (fun q hq => (hoA.lt q hq).1); have z20 := hc0 _ hb2; have z21 := hc1 _ hb2; have y0 := hc0 _ (hb2.alloc hb2.size (.cells #[.int .i64 d1, .int .i64 d2] 44)); have y1 := hc1 _ (hb2.alloc hb2.size (.cells #[.int .i64 d1, .int .i64 d2] 44)))
      | (refine step_append_at_g (by rfl) _ _ _ (by rfl) w1.heap.size 44 i0 (.agg #[.int .i64 0, .int .i64 0]) 2 16 Try.underlying25 hi hz0 hz1 hz2 rfl (by omega) _ 0 [] (by rfl) hoB ⟨g, 0, none⟩ ys.length c1 (pairs ys) (by rfl) hlen2 (row_news HR1.out hb_b) (pairs_ones _) (by unfold maxLen; omega) (by omega) hb_b.size ?_; intro A2 cap2 w2 hown2 hg2 hat2; simp only [Nat.zero_add, List.nil_append] at hown2 ⊢; have hb2 : Below w1.heap.size w1 w2 := hb_b.grown hg2 hb_b.size (fun q hq => (hoB.lt q hq).1); have z20 := hc0 _ hb2; have z21 := hc1 _ hb2; have hnB1 := lit_far d1 d2 hg2 (by simp [Value.ownBlock]) (by simp) (made_lit w1 d1 d2))
      | (refine step_append_at_g (by rfl) _ _ _ (by rfl) w1.heap.size 44 i0 (.agg #[.int .i64 0, .int .i64 0]) 2 16 Try.underlying25 hi hz0 hz1 hz2 rfl (by omega) _ 0 [] (by rfl) hoD ⟨g, 0, none⟩ ys.length c1 (pairs ys) (by rfl) hlen2 (row_news HR1.out hb_d) (pairs_ones _) (by unfold maxLen; omega) (by omega) hb_d.size ?_; intro A2 cap2 w2 hown2 hg2 hat2; simp only [Nat.zero_add, List.nil_append] at hown2 ⊢; have hb2 : Below w1.heap.size w1 w2 := hb_d.grown hg2 hb_d.size (fun q hq => (hoD.lt q hq).1); have z20 := hc0 _ hb2; have z21 := hc1 _ hb2; have hnD1 := lit_far d1 d2 hg2 (by simp [Value.ownBlock]) (by simp; omega) (made_lit2 w1 d1 d2))
      | fail)
  all_goals
    have hfin := below_on hbw1 hb5
    clear hown3 hg3 hat3 hown2 hg2 hat2
    go_wp2_with fail
    all_goals (go_ret; exact ⟨by first | rfl | simp, hfin⟩)
end Go.Proofs.Ytmdjmaijennmkaa
