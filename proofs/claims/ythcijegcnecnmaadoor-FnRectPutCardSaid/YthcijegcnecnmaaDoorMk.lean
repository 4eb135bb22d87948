/- The laws' helpers that mark slices of texts: markText, markStringS, heldStringS. -/
import Derived.Test.YthcijegcnecnmaaDoorSs
import Derived.Test.YthcijegcnecnmaaDoorMe
import Derived.Deep.RegionHeld3
import Derived.Laws.IdiomStrings
set_option linter.unusedVariables false
set_option linter.unusedSimpArgs false
namespace Go.Proofs.YthcijegcnecnmaaDoor
open Go.RowKit

def mkD : Nat → Nat → List UInt8 → List UInt8
  | 0, _, o => o
  | n + 1, k, o => if k = 0 then o else mkD n (k / 10) ((48 + k % 10).toUInt8 :: o)
/-- The text of a mark. -/
def mkT (k : Int) : ByteArray := if k ≤ 0 then ⟨#[109, 48]⟩ else ⟨(109 :: mkD k.toNat k.toNat []).toArray⟩
theorem mkD_done : ∀ n o, mkD n 0 o = o
  | 0, _ => rfl
  | n + 1, o => by simp [mkD]
theorem ret_str {a b : ByteArray} (h : a = b) : Ending.returned (.string a) = .returned (.string b) := by rw [h]
theorem mk_ext {x : ByteArray} {l : List UInt8} (h : x.data.toList = l) : x = ⟨l.toArray⟩ := by
  obtain ⟨⟨m⟩⟩ := x
  subst h; rfl
theorem digit_back (w : World) (k : Nat) : (convert 28 9 (.slice (some ⟨w.heap.size, 0, none⟩) 1 1)).run Tryd.prog (w.alloc (.cells #[.int .u8 (48 + (k : Int) % 10)] 5)) = .ok (.string ⟨#[(48 + k % 10).toUInt8]⟩) (w.alloc (.cells #[.int .u8 (48 + (k : Int) % 10)] 5)) := by
  have h := run_convert_bytes_back (P := Tryd.prog) (w.alloc (.cells #[.int .u8 (48 + (k : Int) % 10)] 5)) 28 9 5 ⟨w.heap.size, 0, none⟩ 1 [(48 + k % 10).toUInt8] Tryd.underlying28 Tryd.underlying5 Tryd.underlying9 ?_
  · exact h
  · intro j hj
    obtain rfl : j = 0 := by simpa using hj
    have e : (((48 + k % 10).toUInt8).toNat : Int) = 48 + (k : Int) % 10 := by
      have : (48 + k % 10).toUInt8.toNat = 48 + k % 10 := by
        show (48 + k % 10) % 256 = _
        omega
      omega
    have hc := cell_of_row _ _ 0 _ _ _ (heap_alloc_new w (.cells #[.int .u8 (48 + (k : Int) % 10)] 5))
    simp only [List.getElem_cons_zero]
    rw [e]
    simp only [Addr.add, Nat.zero_add]
    first | exact hc | (simp; exact hc) | (simp; simpa using hc)
theorem markText_any (k : Int) (w : World) (hk : k ≤ 4000000) :
    Calls Tryd.prog 37 #[.int .i64 k] w fun e w' => e = .returned (.string (mkT k)) ∧ Below w.heap.size w w' := by
  by_cases h0 : k ≤ 0
  · have HE : Hid (mkT k = ⟨#[109, 48]⟩) := Lib.hid (by unfold mkT; rw [if_pos h0])
    go_enter Tryd.func37, Tryd.ntmps37
    go_wp2_with fail
    go_ret
    exact ⟨ret_str HE.out.symm, Below.refl _ _⟩
  · obtain ⟨K, rfl⟩ := Int.eq_ofNat_of_zero_le (show 0 ≤ k by omega)
    have HE : Hid (mkT K = ⟨(109 :: mkD K K []).toArray⟩) := Lib.hid (by unfold mkT; rw [if_neg h0]; rfl)
    go_enter Tryd.func37, Tryd.ntmps37
    go_wp2_with fail
    go_loopw [0, 3] (fun kv ov wr => ∃ (k : Nat) (o : ByteArray) (f : Nat), kv = .int .i64 k ∧ ov = .string o ∧ k ≤ f ∧ o.size + k ≤ K ∧ mkD f k o.data.toList = mkD K K [] ∧ Below w.heap.size w wr) (fun kv _ _ => (intOf kv).toNat)
    case atStart => exact ⟨K, ⟨#[]⟩, K, rfl, rfl, Nat.le_refl _, by show 0 + K ≤ K; omega, rfl, Below.refl _ _⟩
    case round =>
      obtain ⟨k, o, f, rfl, rfl, hf, ho, hd, hb⟩ := hrel
      by_cases hk0 : 0 < k
      · have hk1 : (0 : Int) < (k : Int) := by omega
        have hstep : mkD (f - 1) (k / 10) ((48 + k % 10).toUInt8 :: o.data.toList) = mkD K K [] := by
          rw [← hd, show f = f - 1 + 1 by omega]
          simp only [mkD, Nat.add_sub_cancel]
          rw [if_neg (by omega)]
        have HS := Lib.hid hstep
        have HB := Lib.hid hb
        have hcv := digit_back wr k
        have hsz : o.size ≤ 4000000 := by omega
        clear hstep hd hb
        go_wp2_with fail
        go_roundw
        case rel => exact ⟨k / 10, ⟨#[(48 + k % 10).toUInt8]⟩ ++ o, f - 1, by congr 1, by simp, by omega, by rw [ByteArray.size_append]; show 1 + o.size + _ ≤ _; omega, by rw [ByteArray.data_append, Array.toList_append]; exact HS.out, HB.out.alloc HB.out.size _⟩
        case measure => (simp [intOf] <;> omega)
      · obtain rfl : k = 0 := by omega
        rw [mkD_done] at hd
        have HD := Lib.hid hd
        clear hd
        go_wp2_with fail
        go_ret
        exact ⟨ret_str (by rw [HE.out, ← HD.out]; exact mk_ext (by rw [ByteArray.data_append, Array.toList_append]; rfl)), hb⟩
/-- The marks of n texts from k on. -/
def msL (k : Int) : Nat → List ByteArray
  | 0 => []
  | n + 1 => mkT k :: msL (k + 1) n
theorem msL_len (k : Int) : ∀ n, (msL k n).length = n
  | 0 => rfl
  | n + 1 => by simp [msL, msL_len (k + 1) n]
theorem msL_get (k : Int) : ∀ (n j : Nat), j < n → (msL k n)[j]? = some (mkT (k + j))
  | 0, j, h => absurd h (by omega)
  | n + 1, 0, _ => by simp [msL]
  | n + 1, j + 1, h => by
    simp only [msL, List.getElem?_cons_succ]
    rw [msL_get (k + 1) n j (by omega), show k + 1 + (j : Int) = k + ((j + 1 : Nat) : Int) by omega]
theorem strVals_len (ss : List ByteArray) : (strVals ss).length = ss.length := by simp [strVals]
theorem own_below1 {w w' : World} {base size n : Nat} {e : TypeId} {v : Value} {xs : List Value} (h : w.ownsRow base e size v n xs) (hb : Below w.heap.size w w') : w'.ownsRow base e size v n xs :=
  h.kept (row := none) ⟨hb.os, hb.tape, hb.output, hb.size, fun i hi _ => hb.block i hi⟩ (by cases v.ownBlock <;> simp)
theorem markStringS_any (A : Option Addr) (n c B : Nat) (ss : List ByteArray) (k0 : Int) (w : World) (h : w.ownsRow B 9 1 (.slice A n c) n (strVals ss)) (hB : B ≤ w.heap.size) (hn : n ≤ 1000000) (h0 : 0 ≤ k0) (h1 : k0 ≤ 1000000) :
    Calls Tryd.prog 12 #[.slice A n c, .int .i64 k0] w fun e w' => e = .returned (.int .i64 (k0 + n)) ∧ (w'.ownsRow B 9 1 (.slice A n c) n (strVals (msL k0 n)) ∧ Below B w w') := by
  go_enter Tryd.func12, Tryd.ntmps12
  go_wp2_with fail
  go_loopw [1, 5] (fun kv i wr => ∃ (k : Nat) (ys : List ByteArray), k ≤ n ∧ i = .int .i64 k ∧ kv = .int .i64 (k0 + k) ∧ wr.ownsRow B 9 1 (.slice A n c) n (strVals ys) ∧ (∀ j, j < k → ys[j]? = some (mkT (k0 + j))) ∧ Below B w wr) (fun _ i _ => n - (intOf i).toNat)
  case atStart => exact ⟨0, ss, Nat.zero_le _, rfl, by simp, h, fun j hj => by omega, Below.refl _ _⟩
  case round =>
    obtain ⟨k, ys, hk, rfl, rfl, hown, hys, hb⟩ := hrel
    have hyl : ys.length = n := by have := hown.1; rw [strVals_len] at this; omega
    have HY := Lib.hid hys
    have HL := Lib.hid hyl
    clear hys
    by_cases hkn : k < n
    · have hm := fun W => markText_any (k0 + k) W (by omega)
      have HM := Lib.hid hm
      have hk' : (k : Int) < (n : Int) := by omega
      have hk0 : (0 : Int) ≤ (k : Int) := by omega
      clear hm hyl
      go_wp2_with fail
      refine (HM.out _).mono ?_
      rintro e W2 ⟨rfl, hb2⟩
      have hown2 := own_below1 hown hb2
      obtain ⟨g, cap, hv, hg, hgl⟩ := hown2.form (by omega)
      injection hv with hA _ hcap
      subst hA
      subst hcap
      obtain ⟨y, hcell⟩ : ∃ y, W2.cell? ⟨g, k, none⟩ = some (.string y) := ⟨_, (hown2.cellAt k (by omega)).trans (show (strVals ys)[k]? = some (.string (ys[k]'(by have := HL.out; omega))) by simp [strVals, show k < ys.length by have := HL.out; omega])⟩
      have hfz := hown2.frozenAt k
      have hst := (hown2.stored k (.string (mkT (k0 + k)))).1
      have e1 : (strVals ys).set k (.string (mkT (k0 + k))) = strVals (ys.set k (mkT (k0 + k))) := by simp [strVals, List.map_set]
      rw [e1] at hst
      have hbf := (hb.trans (hb2.mono (Nat.le_trans hB (hb.size)))).setCell (p := ⟨g, k, none⟩) hg (.string (mkT (k0 + k)))
      have HT := Lib.hid (And.intro hst hbf)
      have hrest : ∀ j, j < k + 1 → (ys.set k (mkT (k0 + k)))[j]? = some (mkT (k0 + j)) := by
        intro j hj
        rcases Nat.lt_or_ge j k with h | h
        · rw [List.getElem?_set_ne (by omega)]; exact HY.out j h
        · obtain rfl : j = k := by omega
          rw [List.getElem?_set_self (by have := HL.out; omega)]
      have HR := Lib.hid hrest
      clear hst hbf hown hown2 hrest e1 hb hb2
      go_wp2_with fail
      go_roundw
      case rel => exact ⟨k + 1, _, by omega, by go_num, by congr 1; omega, HT.out.1, HR.out, HT.out.2⟩
      case measure => (simp [intOf] <;> omega)
    · obtain rfl : k = n := by omega
      have he : ys = msL k0 k := by
        apply List.ext_getElem?
        intro j
        rcases Nat.lt_or_ge j k with hj | hj
        · rw [HY.out j hj, msL_get k0 k j hj]
        · rw [List.getElem?_eq_none (by omega), List.getElem?_eq_none (by rw [msL_len]; omega)]
      have HO := Lib.hid hown
      rw [he] at HO
      clear hown he hyl
      go_wp2_with fail
      go_ret
      exact ⟨rfl, HO.out, hb⟩
theorem heldStringS_any (A : Option Addr) (n c : Nat) (k0 : Int) (w : World) (h : Row w w.heap.size A (strVals (msL k0 n))) (hn : n ≤ 1000000) (h0 : 0 ≤ k0) (h1 : k0 ≤ 1000000) :
    Calls Tryd.prog 13 #[.slice A n c, .int .i64 k0] w fun e w' => e = .returned (.int .i64 (k0 + n)) ∧ Below w.heap.size w w' := by
  go_enter Tryd.func13, Tryd.ntmps13
  go_wp2_with fail
  go_loopw [1, 5] (fun kv i wr => ∃ k : Nat, k ≤ n ∧ i = .int .i64 k ∧ kv = .int .i64 (k0 + k) ∧ Below w.heap.size w wr) (fun _ i _ => n - (intOf i).toNat)
  case atStart => exact ⟨0, Nat.zero_le _, rfl, by simp, Below.refl _ _⟩
  case round =>
    obtain ⟨k, hk, rfl, rfl, hbw⟩ := hrel
    by_cases hkn : k < n
    · obtain ⟨b, o, rfl, hb, hc⟩ := (h.below hbw) k (.string (mkT (k0 + k))) (by simp [strVals, msL_get k0 n k hkn])
      have hm := fun W => markText_any (k0 + k) W (by omega)
      have HM := Lib.hid hm
      have hk' : (k : Int) < (n : Int) := by omega
      have hk0 : (0 : Int) ≤ (k : Int) := by omega
      have hsz : w.heap.size ≤ wr.heap.size := hbw.size
      have hbz : b < wr.heap.size := by omega
      have HBW := Lib.hid hbw
      clear hm hbw h hb
      generalize mkT (k0 + k) = t at *
      go_wp2_with fail
      go_region_held3 (fun w' => w'.cell? ⟨b, o + k, none⟩ = some (.string t)) (go_keep)
        ((go_at_call 37; refine (HM.out _).mono ?_; rintro e w1 ⟨rfl, hb1⟩; have k1 := (hb1.cell (p := ⟨b, o + k, none⟩) hbz).trans hc))
      all_goals
        go_wp2_with fail
        go_roundw
        case rel => exact ⟨k + 1, by omega, by go_num, by congr 1; omega, (Below.drew HBW.out).trans (hb1.mono hsz)⟩
        case measure => (simp [intOf] <;> omega)
    · obtain rfl : k = n := by omega
      go_wp2_with fail
      go_ret
      exact ⟨rfl, hbw⟩
end Go.Proofs.YthcijegcnecnmaaDoor
