/- The reference's reader of a code: l20Open, odd; a text that is drawn. -/
import Derived.Test.YtlnldnenkajcdaaRd
import Derived.Deep.RegionWith
import Derived.Deep.RegionHeld3
set_option linter.unusedVariables false
set_option linter.unusedSimpArgs false
namespace Go.Proofs.Ytlnldnenkajcdaa
open Go.RowKit

/-- The bytes of a code that came in. -/
def IsBytes (w : World) (A : Option Addr) (n c : Nat) (zs : List Int) : Prop := zs.length = n ∧ n ≤ c ∧ c ≤ maxLen ∧ (∀ z ∈ zs, 0 ≤ z ∧ z ≤ 255) ∧ Row w w.heap.size A (zs.map (Value.int .u8))

theorem open_any (A : Option Addr) (n c : Nat) (zs : List Int) (w : World) (h : IsBytes w A n c zs) :
    Calls Try.prog 29 #[.slice A n c] w fun e w' => e = .returned (.pointer (some ⟨w.heap.size, 0, none⟩)) ∧ (IsRd w' w.heap.size 0 ∧ Below w.heap.size w w' ∧ w'.heap.size = w.heap.size + 1) := by
  obtain ⟨hl, hnc, hc, hz, hrow⟩ := h
  have hc' := hc
  unfold maxLen at hc'
  by_cases h2 : 2000 < n
  · go_enter Try.func29, Try.ntmps29
    go_wp2
    go_ret
    refine ⟨rfl, ⟨A, c, zs.take 2000, by simp; omega, fun z hz' => hz z (List.mem_of_mem_take hz'), ?_, ?_⟩, (Below.refl _ _).alloc (Nat.le_refl _) _, by simp⟩
    · rw [heap_alloc_new]
      have : (zs.take 2000).length = 2000 := by rw [List.length_take]; omega
      rw [this]; rfl
    · have h1 := hrow.alloc (Nat.le_refl _) (.cells #[.slice A 2000 c, .int .i64 0] 82)
      intro j u hj
      refine h1 j u ?_
      rw [List.map_take, List.getElem?_take] at hj
      split at hj
      · exact hj
      · cases hj
  · go_enter Try.func29, Try.ntmps29
    go_wp2
    go_ret
    refine ⟨rfl, ⟨A, c, zs, by omega, hz, ?_, ?_⟩, (Below.refl _ _).alloc (Nat.le_refl _) _, by simp⟩
    · rw [heap_alloc_new, hl]; rfl
    · exact hrow.alloc (Nat.le_refl _) _
def OddPost (R p : Nat) (w : World) (e : Ending) (w' : World) : Prop :=
  ∃ (b : Bool) (p' : Nat), e = .returned (.bool b) ∧ p ≤ p' ∧ p' ≤ p + 1 ∧ IsRd w' R p' ∧ Beside R w w' ∧ w'.heap.size = w.heap.size
theorem odd_any (R p : Nat) (n : Int) (w : World) (h : IsRd w R p) (hp : p ≤ 1000000) (hn : n ≤ 1000000) (hn0 : -1000000 ≤ n) :
    Calls Try.prog 51 #[.pointer (some ⟨R, 0, none⟩), .int .i64 n] w (OddPost R p w) := by
  by_cases h0 : 0 < n
  · go_enter Try.func51, Try.ntmps51
    go_wp2_with (go_at_call 49; refine (pick_any R p n _ h hp hn).mono ?_; rintro e w' ⟨v, hv1, hv2, rfl, h1, h2, h3⟩)
    go_ret
    exact ⟨_, p + 1, rfl, by omega, by omega, h1, h2, h3⟩
  · go_enter Try.func51, Try.ntmps51
    go_wp2
    go_ret
    exact ⟨false, p, rfl, Nat.le_refl _, by omega, h, Beside.refl _ _, rfl⟩
theorem IsRd.lt {w : World} {R p : Nat} (h : IsRd w R p) : R < w.heap.size := by
  obtain ⟨A, c, zs, _, _, hh, _⟩ := h
  exact (Array.getElem?_eq_some_iff.1 hh).1
theorem IsRd.below {w w' : World} {R p B : Nat} (h : IsRd w R p) (hb : Below B w w') (hR : R < B) : IsRd w' R p := by
  obtain ⟨A, c, zs, h1, h2, hh, h3⟩ := h
  exact ⟨A, c, zs, h1, h2, (hb.block R hR).trans hh, h3.below (hb.mono (by omega))⟩
theorem IsRd.alloc {w : World} {R p : Nat} (h : IsRd w R p) (o : Obj) : IsRd (w.alloc o) R p := h.below ((Below.refl w.heap.size w).alloc (Nat.le_refl _) o) h.lt

/-- The n texts at block B, none longer than 8 bytes. -/
def Parts (w : World) (B n : Nat) : Prop := ∀ v : Nat, v < n → ∃ t : ByteArray, t.size ≤ 8 ∧ w.cell? ⟨B, v, none⟩ = some (.string t)
def shortB : Value → Bool
  | .string t => decide (t.size ≤ 8)
  | _ => false
theorem Parts.new (w : World) (cs : Array Value) (T : TypeId) (h : cs.toList.all shortB = true) : Parts (w.alloc (.cells cs T)) w.heap.size cs.size := by
  intro v hv
  have hm : cs[v] ∈ cs.toList := by simp
  have h1 := List.all_eq_true.1 h _ hm
  have hc : (w.alloc (.cells cs T)).cell? ⟨w.heap.size, v, none⟩ = some cs[v] := by
    rw [cell_of_row _ _ v cs T (0, 0) (heap_alloc_new w _)]
    exact Array.getElem?_eq_getElem hv
  revert h1 hc
  generalize cs[v] = u
  intro h1 hc
  cases u <;> simp [shortB] at h1
  exact ⟨_, h1, hc⟩
theorem Parts.beside {w w' : World} {R B n : Nat} (h : Parts w B n) (hb : Beside R w w') (hB : B < w.heap.size) (hne : B ≠ R) : Parts w' B n := fun v hv =>
  let ⟨t, h1, h2⟩ := h v hv
  ⟨t, h1, (hb.cell (p := ⟨B, v, none⟩) hB hne).trans h2⟩

theorem lit_size (a : Array UInt8) : (ByteArray.mk a).size = a.size := rfl
def strLen : Value → Nat
  | .string t => t.size
  | _ => 0
/-- A text that is drawn. -/
def TextPost (R p : Nat) (w : World) (e : Ending) (w' : World) : Prop :=
  ∃ (s : ByteArray) (p' : Nat), e = .returned (.string s) ∧ s.size ≤ 200 ∧ p ≤ p' ∧ p' ≤ p + 40 ∧ IsRd w' R p' ∧ Beside R w w'
def TextRel (R p B : Nat) (w : World) (sv kv : Value) (wr : World) : Prop :=
  ∃ (s : ByteArray) (k p1 : Nat), sv = .string s ∧ kv = .int .i64 k ∧ k ≤ 23 ∧ s.size + 8 * k ≤ 184 ∧ p ≤ p1 ∧ p1 + k ≤ p + 24 ∧ IsRd wr R p1 ∧ Beside R w wr ∧ Parts wr B 24 ∧ B < wr.heap.size
set_option maxRecDepth 100000 in
theorem text_any (R p : Nat) (n : Int) (w : World) (h : IsRd w R p) (hp : p ≤ 900000) (hn : n ≤ 1000000) (hn0 : -1000000 ≤ n) :
    Calls Try.prog 48 #[.pointer (some ⟨R, 0, none⟩), .int .i64 n] w (TextPost R p w) := by
  obtain ⟨B, hB⟩ : ∃ B, w.heap.size = B := ⟨_, rfl⟩
  have HB := Lib.hid hB
  clear hB
  go_enter Try.func48, Try.ntmps48
  go_wp2_with fail
  refine (pick_any R p 24 _ (h.alloc _) (by omega) (by omega)).mono ?_
  rintro e W1 ⟨v, hv1, hv2, rfl, hr1, hb1, hs1⟩
  have hP : Parts W1 w.heap.size 24 := (Parts.new w _ _ (by decide)).beside hb1 (by simp) (by have := h.lt; omega)
  have hb2 : Beside R w W1 := ((Beside.refl R w).alloc _).trans hb1
  have hlt : w.heap.size < W1.heap.size := by rw [hs1]; simp
  have hvv := hv2 (by omega)
  obtain ⟨k0, rfl⟩ := Int.eq_ofNat_of_zero_le hv1
  clear hb1 hs1 hv2 hv1
  rw [HB.out] at hP hlt ⊢
  go_wp2_with fail
  go_loopw [5, 7] (fun sv kv wr => TextRel R p B w sv kv wr) (fun _ kv _ => (intOf kv).toNat)
  case atStart => exact ⟨_, k0, p + 1, rfl, rfl, by omega, by show 0 + 8 * k0 ≤ 184; omega, by omega, by omega, hr1, hb2, hP, hlt⟩
  case round =>
    obtain ⟨s, k, p1, rfl, rfl, hk, hsz, hp1, hp2, hR, hbs, hPr, hBl⟩ := hrel
    clear hr1 hb2 hP hlt
    rcases k with _ | q
    · go_wp2_with fail
      all_goals
        refine (odd_any R p1 n _ hR (by omega) hn hn0).mono ?_
        rintro e W2 ⟨b, p2, rfl, hp3, hp4, hR2, hb2, hs2⟩
        have hb3 := hbs.trans hb2
        clear hb2 hR hbs hPr hBl hs2
        cases b
        · go_wp2_with fail
          go_ret
          exact ⟨_, p2, rfl, by first | omega | (simp [ByteArray.size_extract]; omega), by omega, by omega, hR2, hb3⟩
        · go_wp2_with fail
          refine (pick_any R p2 3 _ hR2 (by omega) (by omega)).mono ?_
          rintro e W3 ⟨v, hv1, hv2, rfl, hR3, hb4, hs4⟩
          have hvv := hv2 (by omega)
          have hb5 := hb3.trans hb4
          clear hb4 hb3 hR2 hs4 hv2
          by_cases c0 : v = 0
          · have e0 : (v == 0) = true := by simp [c0]
            clear c0
            go_wp2_with fail
            go_ret
            exact ⟨_, p2 + 1, rfl, by simp [ByteArray.size_append, ByteArray.size_extract, lit_size]; omega, by omega, by omega, hR3, hb5⟩
          have e0 : (v == 0) = false := by simp [c0]
          clear c0
          by_cases c1 : v = 1
          · have e1 : (v == 1) = true := by simp [c1]
            clear c1
            go_wp2_with fail
            go_ret
            exact ⟨_, p2 + 1, rfl, by simp [ByteArray.size_append, ByteArray.size_extract, lit_size]; omega, by omega, by omega, hR3, hb5⟩
          have e1 : (v == 1) = false := by simp [c1]
          clear c1
          go_wp2_with fail
          go_loop [5] (fun sv => ∃ t : ByteArray, sv = .string t ∧ t.size ≤ 190) (fun sv => 200 - strLen sv)
          case atStart => exact ⟨_, rfl, by first | omega | (simp [ByteArray.size_extract]; omega)⟩
          case round =>
            obtain ⟨t, rfl, ht⟩ := hrel
            by_cases h12 : t.size ≤ 120
            · go_wp2_with fail
              go_round
              case rel => exact ⟨_, rfl, by simp [ByteArray.size_append, lit_size]; omega⟩
              case measure => (simp [strLen, ByteArray.size_append, lit_size]; omega)
            · go_wp2_with fail
              go_ret
              exact ⟨_, p2 + 1, rfl, by omega, by omega, by omega, hR3, hb5⟩
    · go_wp2_with fail
      refine (pick_any R p1 24 _ hR (by omega) (by omega)).mono ?_
      rintro e W2 ⟨v, hv1, hv2, rfl, hR2, hb2, hs2⟩
      have hvv := hv2 (by omega)
      obtain ⟨i, rfl⟩ := Int.eq_ofNat_of_zero_le hv1
      obtain ⟨t, ht, hcell⟩ := (hPr.beside hb2 hBl (by have := h.lt; rw [← HB.out]; omega)) i (by omega)
      have hb3 := hbs.trans hb2
      have hP2 := hPr.beside hb2 hBl (by have := h.lt; rw [← HB.out]; omega)
      have hP3 := Lib.hid hP2
      have hB2 : B < W2.heap.size := by omega
      clear hP2 hb2 hR hbs hPr hs2 hBl
      go_wp2_with fail
      go_roundw
      case rel => exact ⟨_, q, p1 + 1, rfl, rfl, by omega, by simp; omega, by omega, by omega, hR2, hb3, hP3.out, hB2⟩
      case measure => (simp [intOf] <;> omega)
end Go.Proofs.Ytlnldnenkajcdaa
