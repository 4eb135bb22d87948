/- The contract of the reference's HistoryDo at histories that are valid. -/
import Derived.Test.YtlnldnenkajcdaaIb
set_option linter.unusedVariables false
set_option linter.unusedSimpArgs false
namespace Go.Proofs.Ytlnldnenkajcdaa
open Go.RowKit
theorem news7 (W : World) (T : TypeId) (m : Mom) : ∀ (j : Nat) (u : Value), m.cells[j]? = some u → (W.alloc (.cells #[.int .i64 m.p, .int .i64 m.a, .int .i64 m.b, .string m.x, .int .i64 m.c, .int .i64 m.d, .string m.y] T)).cell? ((⟨W.heap.size, 0, none⟩ : Addr).add j) = some u := by
  intro j u hj
  have h := cell_of_row _ W.heap.size j _ T (0, 0) (heap_alloc_new W (.cells #[.int .i64 m.p, .int .i64 m.a, .int .i64 m.b, .string m.x, .int .i64 m.c, .int .i64 m.d, .string m.y] T))
  have e : ((⟨W.heap.size, 0, none⟩ : Addr).add j) = ⟨W.heap.size, j, none⟩ := by
    by_cases h0 : j = 0
    · subst h0; simp [Addr.add]
    · simp [Addr.add, h0]
  rw [e, h]
  simpa [Mom.cells] using hj
theorem ones7 (m : Mom) : ∀ u ∈ m.cells, u.oneCell' = true := by
  intro u hu
  simp [Mom.cells] at hu
  rcases hu with rfl | rfl | rfl | rfl | rfl | rfl | rfl <;> rfl
theorem own_neT {w : World} {base size n c g : Nat} {e T : TypeId} {A : Option Addr} {xs : List Value} {cs : Array Value} {fz : Nat × Nat} (h : w.ownsRow base e size (.slice A n c) n xs) (hg : w.heap[g]? = some (.cells cs T fz)) (hT : T ≠ e) : ∀ a, A = some a → a.block ≠ g := by
  intro a ha hag
  subst ha
  rcases h.2 with ⟨h1, _⟩ | ⟨g', cap, cur, h1, _, h3, _⟩
  · cases h1
  · injection h1 with h1
    injection h1 with h1
    subst h1
    simp only at hag
    rw [hag, hg] at h3
    injection h3 with h3
    injection h3 with _ h4 _
    exact hT h4
set_option maxHeartbeats 4000000 in
set_option maxRecDepth 100000 in
theorem sHD_any (A : Option Addr) (n c : Nat) (k : Nat) (ms : List Mom) (s : ByteArray) (T : List ByteArray) (a b : Int) (x : ByteArray) (w : World) (h : Row w w.heap.size A (moms ms)) (hl : ms.length = n) (hgd : Good ms k s T) (hsm : Sm ms) (hx : x.size ≤ 1000) :
    Calls Try.prog 57 #[.agg #[.slice A n c, .int .i64 k], .string s, .agg #[.int .i64 a, .int .i64 b, .string x]] w (HPost w) := by
  subst hl
  obtain ⟨i0, hi, hz0, hz9, hz8⟩ := mom_parts
  have h30 := hgd.1
  have hv := hgd.2.1
  have hs120 := valid_size hv
  have hsm' : s.size ≤ maxLen := by unfold maxLen; omega
  have hkl : k < ms.length := by obtain ⟨k', e, e2, _⟩ := hgd.2.2.2.1; omega
  obtain ⟨B, hB⟩ : ∃ B, w.heap.size = B := ⟨_, rfl⟩
  obtain ⟨Y, hY⟩ : ∃ Y, ((w.alloc (.cells #[.slice A ms.length c, .int .i64 k] 29)).alloc (.cells #[.int .i64 a, .int .i64 b, .string x] 36)).alloc (.cells #[.slice none 0 0, .int .i64 0] 29) = Y := ⟨_, rfl⟩
  have hbY : Below w.heap.size w Y := hY ▸ (((Below.refl w.heap.size w).alloc (Nat.le_refl _) _).alloc (by simp) _).alloc (by simp; omega) _
  have hA : HBox Y B 29 (.slice A ms.length c) k := by rw [← hY, ← hB]; exact ((HBox.new w _ _ _).alloc _).alloc _
  have hC : CB Y (B + 1) a b x := by
    have h1 := CB.new (w.alloc (.cells #[.slice A ms.length c, .int .i64 k] 29)) a b x
    have h2 : CB Y (w.alloc (.cells #[.slice A ms.length c, .int .i64 k] 29)).heap.size a b x := by
      rw [← hY]; exact (heap_alloc_old _ _ h1.lt).trans h1
    rw [← hB]; simpa using h2
  have hR : HBox Y (B + 1 + 1) 29 (.slice none 0 0) 0 := by
    have h1 := HBox.new ((w.alloc (.cells #[.slice A ms.length c, .int .i64 k] 29)).alloc (.cells #[.int .i64 a, .int .i64 b, .string x] 36)) 29 (.slice none 0 0) 0
    rw [← hY, ← hB]; simpa using h1
  have hzY : B + 1 + 1 < Y.heap.size := hR.lt
  have hrow := (h.below hbY).more hbY.size
  have y0 := hA.c0
  have y1 := hA.c1
  have HY := Lib.hid (And.intro hbY (And.intro hA (And.intro hC (And.intro hR hrow))))
  clear hbY hA hC hR hrow
  go_enter Try.func57, Try.ntmps57
  go_wp2_with fail
  refine (sHV_any _ _ c k ms s _ HY.out.2.2.2.2 rfl (by omega) hsm' hsm.wide (by omega)).mono ?_
  rintro e W1 ⟨⟨b1, rfl, hi1⟩, hb1⟩
  obtain rfl : b1 = true := hv_true hgd hi1
  have hbw1 := HY.out.1.trans (hb1.mono HY.out.1.size)
  have hA1 := HY.out.2.1.below hb1 HY.out.2.1.lt
  have hC1 := HY.out.2.2.1.below hb1 HY.out.2.2.1.lt
  have hR1 := HY.out.2.2.2.1.below hb1 HY.out.2.2.2.1.lt
  have hrow1 := (HY.out.2.2.2.2.below hb1).more hb1.size
  have z0 := hA1.c0
  have z1 := hA1.c1
  have hz1 : B + 1 + 1 < W1.heap.size := hR1.lt
  have H1 := Lib.hid (And.intro hbw1 (And.intro hA1 (And.intro hC1 (And.intro hR1 hrow1))))
  clear hbw1 hA1 hC1 hR1 hrow1 hb1 hi1 y0 y1 HY
  go_wp2_with fail
  refine (copy_any _ _ c k ms _ H1.out.2.2.2.2 rfl h30).mono ?_
  rintro e W2 ⟨v, rfl, ⟨A2, c2, rfl, hown2⟩, hb2⟩
  have hbw2 := H1.out.1.trans (hb2.mono H1.out.1.size)
  have hA2 := H1.out.2.1.below hb2 H1.out.2.1.lt
  have hC2 := H1.out.2.2.1.below hb2 H1.out.2.2.1.lt
  have hR2 := H1.out.2.2.2.1.below hb2 H1.out.2.2.2.1.lt
  have hlt2 := own_lt hown2
  obtain ⟨g, hg⟩ : ∃ g, W2.heap.size = g := ⟨_, rfl⟩
  obtain ⟨X, hX⟩ : ∃ X, W2.alloc (.cells #[.slice A2 ms.length c2, .int .i64 k] 29) = X := ⟨_, rfl⟩
  have hal : Below W2.heap.size W2 X := hX ▸ (Below.refl _ _).alloc (Nat.le_refl _) _
  have hbX := hbw2.trans (hal.mono hbw2.size)
  have hAX := hA2.below hal hA2.lt
  have hCX := hC2.below hal hC2.lt
  have hRX := hR2.below hal hR2.lt
  have hoX := own_below7 hown2 hal
  have hxX : HBox X g 29 (.slice A2 ms.length c2) k := by rw [← hX, ← hg]; exact HBox.new W2 _ _ _
  have u0 := hCX.c0
  have u1 := hCX.c1
  have u2 := hCX.c2
  have hgb : B + 1 + 1 < g := by have := hR2.lt; omega
  have hW1g : W1.heap.size ≤ g := by have := hb2.size; omega
  have hA2g : ∀ a, A2 = some a → W1.heap.size ≤ a.block ∧ a.block < g := fun a ha => hg ▸ hlt2 a ha
  have HA2 := Lib.hid hA2g
  have H3 := Lib.hid (And.intro hbX (And.intro hAX (And.intro hCX (And.intro hRX (And.intro hxX hoX)))))
  have hgl := hxX.lt
  have hCl := hCX.lt
  have hAl := hAX.lt
  have hBl := hRX.lt
  have hac := fun W => sAC_any s x a b W (by omega) (by omega)
  rw [if_pos hv] at hac
  obtain ⟨F, hF⟩ : ∃ F, fitB s x a b = F := ⟨_, rfl⟩
  obtain ⟨Z, hZ⟩ : ∃ Z, (if fitB s x a b = true then apX s x a b else s) = Z := ⟨_, rfl⟩
  have hrv := fun W => sRV_any s x a b W (by omega) (by omega)
  obtain ⟨ra, rc, rp, hrr, hrt⟩ : ∃ (ra rc : Int) (rp : ByteArray), (if fitB s x a b = true then Value.agg #[.int .i64 a, .int .i64 x.size, .string (s.extract a.toNat (a + b).toNat)] else .agg #[.int .i64 0, .int .i64 0, .string ⟨#[]⟩]) = .agg #[.int .i64 ra, .int .i64 rc, .string rp] ∧ (F = true → ra = a ∧ rc = x.size ∧ rp = s.extract a.toNat (a + b).toNat) := by
    rw [hF]
    cases F
    · exact ⟨0, 0, ⟨#[]⟩, rfl, fun e => absurd e (by decide)⟩
    · exact ⟨a, x.size, _, rfl, fun _ => ⟨rfl, rfl, rfl⟩⟩
  rw [hrr, hF] at hrv
  rw [hZ, hF] at hac
  have HAC := Lib.hid hac
  have HRV := Lib.hid hrv
  have HF := Lib.hid (And.intro hF (And.intro hZ hrt))
  clear hb2 hbw2 hA2 hC2 hR2 hlt2 hown2 hal hbX hAX hCX hRX hoX hxX hA2g H1 hac hrv hrr hrt hF hZ
  go_wp2_with fail
  refine (HAC.out _).mono ?_
  rintro e W3 ⟨rfl, hb3⟩
  have hC3 := H3.out.2.2.1.below hb3 hCl
  have v0 := hC3.c0
  have v1 := hC3.c1
  have v2 := hC3.c2
  have hz3 : X.heap.size ≤ W3.heap.size := hb3.size
  have H4 := Lib.hid hb3
  clear hb3 hC3 u0 u1 u2
  go_wp2_with fail
  refine (HRV.out _).mono ?_
  rintro e W4 ⟨rfl, hb4⟩
  have hb5 := H4.out.trans (hb4.mono H4.out.size)
  obtain ⟨g2, hg2⟩ : ∃ g2, W4.heap.size = g2 := ⟨_, rfl⟩
  obtain ⟨X2, hX2⟩ : ∃ X2, W4.alloc (.cells #[.int .i64 ra, .int .i64 rc, .string rp] 36) = X2 := ⟨_, rfl⟩
  have hb6 : Below X.heap.size X X2 := hX2 ▸ hb5.alloc hb5.size _
  have hK : CB X2 g2 ra rc rp := by rw [← hX2, ← hg2]; exact CB.new W4 _ _ _
  have hA6 := H3.out.2.1.below hb6 hAl
  have hC6 := H3.out.2.2.1.below hb6 hCl
  have hR6 := H3.out.2.2.2.1.below hb6 hBl
  have hx6 := H3.out.2.2.2.2.1.below hb6 hgl
  have ho6 := own_below7 H3.out.2.2.2.2.2 hb6
  have hbw6 := (hB ▸ H3.out.1.trans (hb6.mono H3.out.1.size) : Below B w X2)
  have a0 := hA6.c0
  have a1 := hA6.c1
  have c0 := hC6.c0
  have c1 := hC6.c1
  have c22 := hC6.c2
  have r0 := hR6.c0
  have r1 := hR6.c1
  have rf0 := hR6.fr 0
  have rf1 := hR6.fr 1
  have e0 := hx6.c0
  have e1 := hx6.c1
  have ef0 := hx6.fr 0
  have ef1 := hx6.fr 1
  have k0 := hK.c0
  have k1 := hK.c1
  have k2 := hK.c2
  have ge1 : B ≤ B + 1 + 1 := by omega
  have ge3 : B ≤ g := by omega
  have hgl6 := hx6.lt
  have hAl6 := hA6.lt
  have hCl6 := hC6.lt
  have hRl6 := hR6.lt
  have hKl6 := hK.lt
  have H6 := Lib.hid (And.intro hA6 (And.intro hC6 (And.intro hR6 (And.intro hx6 (And.intro ho6 (And.intro hbw6 hK))))))
  clear hb4 hb5 hb6 hA6 hC6 hR6 hx6 ho6 hbw6 hK v0 v1 v2 H4 z0 z1
  by_cases hgo : F = true ∧ ms.length ≠ 30
  rotate_left
  · have ho7 := own_set (own_set H6.out.2.2.2.2.1 (q := ⟨B + 1 + 1, 0, none⟩) hz1 (.slice A2 ms.length c2)) (q := ⟨B + 1 + 1, 1, none⟩) hz1 (.int .i64 k)
    have hb7 := (H6.out.2.2.2.2.2.1.setCell (p := ⟨B + 1 + 1, 0, none⟩) ge1 (.slice A2 ms.length c2)).setCell (p := ⟨B + 1 + 1, 1, none⟩) ge1 (.int .i64 k)
    have HFI : Hid (HPost w (.returned (.tuple #[.agg #[.slice A2 ms.length c2, .int .i64 k], .string s, .bool false])) ((X2.setCell ⟨B + 1 + 1, 0, none⟩ (.slice A2 ms.length c2)).setCell ⟨B + 1 + 1, 1, none⟩ (.int .i64 k))) :=
      Lib.hid ⟨ms, k, s, T, _, false, rfl, hgd, hsm, ⟨A2, c2, rfl, own_leM ho7 (by omega)⟩, hB.symm ▸ hb7⟩
    clear ho7 hb7
    cases F
    · clear hgo
      go_wp2_with fail
      refine bodyPost_ret (v := .tuple #[.agg #[.slice A2 ms.length c2, .int .i64 k], .string s, .bool false]) ?_ rfl HFI.out
      simp [results, Try.results57, go_sem, r0, r1]
    · have h3 : ((ms.length : Int) == 30) = true := by
        have : ms.length = 30 := by
          rcases Nat.lt_or_ge ms.length 30 with h | h
          · exact absurd ⟨rfl, by omega⟩ hgo
          · omega
        simp [this]
      clear hgo
      go_wp2_with fail
      refine bodyPost_ret (v := .tuple #[.agg #[.slice A2 ms.length c2, .int .i64 k], .string s, .bool false]) ?_ rfl HFI.out
      simp [results, Try.results57, go_sem, r0, r1]
  obtain ⟨rfl, hne⟩ := hgo
  have h3 : ((ms.length : Int) == 30) = false := by simp; omega
  obtain ⟨hF, hZ, hrt⟩ := HF.out
  obtain ⟨rfl, rfl, rfl⟩ := hrt rfl
  rw [if_pos hF] at hZ
  have hpush := hgd.push (by omega) hF
  rw [hZ] at hpush
  have hsmp : Sm (ms ++ [⟨k, ra, b, x, ra, x.size, s.extract ra.toNat (ra + b).toNat⟩]) := fun m hm => by
    rcases List.mem_append.1 hm with hm | hm
    · exact hsm m hm
    · simp at hm; subst hm
      exact ⟨hx, by show (s.extract _ _).size ≤ 1000; rw [ByteArray.size_extract]; omega⟩
  generalize s.extract ra.toNat (ra + b).toNat = E at *
  have HP := Lib.hid (And.intro hpush hsmp)
  have hown6 := H6.out.2.2.2.2.1
  clear hpush hsmp hF hZ hrt HF hgd
  obtain ⟨M, hM⟩ : ∃ M : Mom, M = ⟨k, ra, b, x, ra, x.size, E⟩ := ⟨_, rfl⟩
  have hnw : ∀ (j : Nat) (u : Value), M.cells[j]? = some u → (X2.alloc (.cells #[.int .i64 k, .int .i64 ra, .int .i64 b, .string x, .int .i64 ra, .int .i64 x.size, .string E] 56)).cell? ((⟨X2.heap.size, 0, none⟩ : Addr).add j) = some u := by
    rw [hM]; exact news7 X2 _ ⟨k, ra, b, x, ra, x.size, E⟩
  have hml : M.cells.length = 1 * 7 := rfl
  rw [← hM] at HP
  have hBW : B ≤ W1.heap.size := by omega
  have hWX : W1.heap.size ≤ X2.heap.size := by omega
  clear hM
  go_wp2_with (first | (at_builtin; refine wpList_append_own _ rfl _ _ 27 rfl W1.heap.size 56 i0 (.agg #[.int .i64 0, .int .i64 0, .int .i64 0, .string ⟨#[]⟩, .int .i64 0, .int .i64 0, .string ⟨#[]⟩]) 7 72 Try.underlying27 hi hz0 hz9 hz8 rfl (by decide) _ _ _ rfl (hown6.alloc _) ⟨X2.heap.size, 0, none⟩ 1 1 M.cells rfl hml hnw (ones7 _) (by unfold maxLen; omega) (by omega) (by simp; omega) ?_))
  intro v' w1 hown' hgrow _
  obtain ⟨A3, c3, rfl⟩ := own_formS hown'
  have hblk : ∀ q, q < X2.heap.size → (∀ a, A2 = some a → a.block ≠ q) → w1.heap[q]? = X2.heap[q]? := fun q hq hne => by
    have h1 := hgrow.block q (by simp; omega) (by
      cases A2 with
      | none => simp [Value.ownBlock]
      | some a => simp only [Value.ownBlock]; intro e; injection e with e; exact hne a rfl e.symm)
    exact h1.trans (heap_alloc_old X2 _ hq)
  have hx7 : HBox w1 g 29 (.slice A2 ms.length c2) k := (hblk g hgl6 (fun a ha => by have := HA2.out a ha; omega)).trans H6.out.2.2.2.1
  have hR7 : HBox w1 (B + 1 + 1) 29 (.slice none 0 0) 0 := (hblk (B + 1 + 1) hRl6 (fun a ha => by have := HA2.out a ha; omega)).trans H6.out.2.2.1
  have hbw7 : Below B w w1 := (H6.out.2.2.2.2.2.1.alloc (by omega) _).grown hgrow (by simp; omega) (fun j hj => by
    cases A2 with
    | none => simp [Value.ownBlock] at hj
    | some a =>
      simp only [Value.ownBlock] at hj
      injection hj with hj
      have := HA2.out a rfl
      omega)
  have hTT : 29 ≠ 56 := by decide
  have hn1 := own_neT hown' hx7 hTT
  have hn2 := own_neT hown' hR7 hTT
  have d0 := hx7.c0
  have d1 := hx7.c1
  have df0 := hx7.fr 0
  have df1 := hx7.fr 1
  have s0 := hR7.c0
  have s1 := hR7.c1
  have sf0 := hR7.fr 0
  have sf1 := hR7.fr 1
  have neg : g ≠ B + 1 + 1 := by omega
  have neg2 : B + 1 + 1 ≠ g := by omega
  have hl9 : (ms ++ [M]).length = ms.length + 1 := by simp
  have ho8 := own_setN (own_setN (own_setN (own_setN hown' (q := ⟨g, 0, none⟩) hn1 (.slice A3 (ms.length + 1) c3)) (q := ⟨g, 1, none⟩) hn1 (.int .i64 ms.length)) (q := ⟨B + 1 + 1, 0, none⟩) hn2 (.slice A3 (ms.length + 1) c3)) (q := ⟨B + 1 + 1, 1, none⟩) hn2 (.int .i64 ms.length)
  have hb8 := (((hbw7.setCell (p := ⟨g, 0, none⟩) ge3 (.slice A3 (ms.length + 1) c3)).setCell (p := ⟨g, 1, none⟩) ge3 (.int .i64 ms.length)).setCell (p := ⟨B + 1 + 1, 0, none⟩) ge1 (.slice A3 (ms.length + 1) c3)).setCell (p := ⟨B + 1 + 1, 1, none⟩) ge1 (.int .i64 ms.length)
  have HFI : Hid (HPost w (.returned (.tuple #[.agg #[.slice A3 (ms.length + 1) c3, .int .i64 ms.length], .string Z, .bool true])) ((((w1.setCell ⟨g, 0, none⟩ (.slice A3 (ms.length + 1) c3)).setCell ⟨g, 1, none⟩ (.int .i64 ms.length)).setCell ⟨B + 1 + 1, 0, none⟩ (.slice A3 (ms.length + 1) c3)).setCell ⟨B + 1 + 1, 1, none⟩ (.int .i64 ms.length))) :=
    Lib.hid ⟨ms ++ [M], ms.length, Z, T ++ [Z], _, true, rfl, HP.out.1, HP.out.2, ⟨A3, c3, by rw [hl9], by rw [hl9, moms_snoc]; exact own_leM ho8 (by omega)⟩, hB.symm ▸ hb8⟩
  clear hown' hgrow hblk hx7 hR7 hbw7 hn1 hn2 ho8 hb8 hl9 hnw hml hown6 H3 H6
  go_wp2_with fail
  trace_state
  refine bodyPost_ret (v := .tuple #[.agg #[.slice A3 (ms.length + 1) c3, .int .i64 ms.length], .string Z, .bool true]) ?_ rfl HFI.out
  simp [results, Try.results57, go_sem, s0, s1]
end Go.Proofs.Ytlnldnenkajcdaa
