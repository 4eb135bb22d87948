/- The contracts of Selected, of the program and of the reference. -/
import Derived.Test.YtmdjmaijennmkaaCs
import Derived.Test.YtmdjmaijennmkaaAp
import Derived.Test.YtmdjmaijennmkaaMk
import Derived.Test.YtmdjmaijennmkaaTy
set_option linter.unusedVariables false
set_option linter.unusedSimpArgs false
namespace Go.Proofs.Ytmdjmaijennmkaa
open Go.RowKit Go.Sort
def cutC (s : ByteArray) (c : Int × Int) : ByteArray := s.extract (loC c).toNat (hiC c).toNat
/-- The texts that are selected. -/
def seL (s : ByteArray) (l : List (Int × Int)) : List ByteArray := if cuV s l = true then l.map (cutC s) else []
theorem se_at {s : ByteArray} {l : List (Int × Int)} (h : cuV s l = true) {k : Nat} (hk : k < l.length) : ∃ a b : Nat, loC l[k] = (a : Int) ∧ hiC l[k] = (b : Int) ∧ a ≤ b ∧ b ≤ s.size ∧ (seL s l)[k]? = some (s.extract a b) := by
  obtain ⟨_, h2⟩ := cuV_iff.1 h
  obtain ⟨_, h3, _⟩ := plV_iff.1 h2
  obtain ⟨g1, g2⟩ := h3 l[k] (List.getElem_mem hk)
  have := lo_hi l[k]
  obtain ⟨a, ha⟩ := Int.eq_ofNat_of_zero_le g1
  obtain ⟨b, hb⟩ := Int.eq_ofNat_of_zero_le (show 0 ≤ hiC l[k] by omega)
  refine ⟨a, b, ha, hb, by omega, by omega, ?_⟩
  unfold seL
  rw [if_pos h, List.getElem?_map, List.getElem?_eq_getElem hk]
  simp [cutC, ha, hb]
theorem se_len {s : ByteArray} {l : List (Int × Int)} (h : cuV s l = true) : (seL s l).length = l.length := by
  unfold seL; rw [if_pos h]; simp
theorem se_small (s : ByteArray) (l : List (Int × Int)) : (seL s l).length ≤ 8 ∧ ((seL s l).length ≤ l.length) := by
  unfold seL
  split
  · rename_i h
    obtain ⟨_, h2⟩ := cuV_iff.1 h
    obtain ⟨_, _, h4⟩ := plV_iff.1 h2
    simpa using h4
  · simp
set_option maxRecDepth 100000 in
theorem iSe_any (s : ByteArray) (A : Option Addr) (n c : Nat) (ps : List (Int × Int)) (w : World) (hs : s.size ≤ maxLen) (h : Row w w.heap.size A (pairs ps)) (hn : ps.length = n) (hmax : n ≤ 3000000) :
    Calls Try.prog 20 #[.string s, .slice A n c] w (StrsPost (seL s ps) w) := by
  have hs' := hs
  unfold maxLen at hs'
  subst hn
  cases hok : cuV s ps
  · have hnil : seL s ps = [] := by unfold seL; rw [hok]; rfl
    rw [hnil]
    go_enter Try.func20, Try.ntmps20
    go_wp2_with fail
    refine (iCV_any s A _ c ps _ hs h rfl hmax).mono ?_
    rintro e W1 ⟨rfl, hb1⟩
    go_wp2_with fail
    go_ret
    exact ⟨none, 0, rfl, World.ownsRow_nil _ _ _ _, hb1⟩
  · obtain ⟨i0, hi, hz0, hz1, hz2⟩ := info_parts infoStr
    have hat := fun k hk => se_at hok (k := k) hk
    have hl := se_len hok
    have hle := (plV_iff.1 (cuV_iff.1 hok).2).2.2
    have hc := iCV_any s A _ c ps w hs h rfl hmax
    rw [hok] at hc
    generalize seL s ps = ss at *
    have HC := Lib.hid hc
    have HAT := Lib.hid hat
    have HL := Lib.hid hl
    clear hc hat hl hok
    go_enter Try.func20, Try.ntmps20
    go_wp2_with fail
    refine (HC.out).mono ?_
    rintro e W1 ⟨rfl, hb⟩
    have hr := (h.below hb).more hb.size
    go_wp2_with fail
    go_loopw [5, 16] (fun ov iv wr => ∃ k : Nat, k ≤ ps.length ∧ iv = .int .i64 k ∧ wr.ownsRow W1.heap.size 9 1 ov k (strVals (ss.take k)) ∧ Below W1.heap.size W1 wr) (fun _ iv _ => ps.length - (intOf iv).toNat)
    case atStart => exact ⟨0, Nat.zero_le _, rfl, World.ownsRow_nil _ _ _ _, Below.refl _ _⟩
    case round =>
      obtain ⟨k, hk, rfl, hown, hbw⟩ := hrel
      by_cases hkx : k < ps.length
      · obtain ⟨a, b, g1, g2, g3, g4, g5⟩ := HAT.out k hkx
        obtain ⟨g, o, rfl, hbb, c0, c1⟩ := (hr.below hbw).pair hkx
        generalize (ps[k]'hkx) = y at c0 c1 g1 g2
        obtain ⟨y1, y2⟩ := y
        simp only at c0 c1
        have hk' : (k : Int) < (ps.length : Int) := by omega
        have hk0 : (0 : Int) ≤ (k : Int) := by omega
        have ha0 : (0 : Int) ≤ (a : Int) := by omega
        have hab : (a : Int) ≤ (b : Int) := by omega
        have hbs : (b : Int) ≤ (s.size : Int) := by omega
        have HT := Lib.hid (take_str g5)
        have hec := fun W => ends_below y1 y2 W
        rw [g1, g2] at hec
        have HE := Lib.hid hec
        have HOW := Lib.hid (And.intro hown hbw)
        clear g1 g2 g5 hown hbw hec
        go_wp2_with fail
        refine (HE.out _).mono ?_
        rintro e W2 ⟨rfl, hb2⟩
        have hb3 : Below W1.heap.size W1 W2 := (HOW.out.2.alloc HOW.out.2.size _).trans (hb2.mono (by have := HOW.out.2.size; simp; omega))
        have hown2 := own_below1 (HOW.out.1.alloc (.cells #[.int .i64 y1, .int .i64 y2] 44)) hb2
        have hlt := fun k hk => hown2.lt k hk
        have hBz := hb3.size
        have HB2 := Lib.hid hb3
        have HLT := Lib.hid hlt
        clear hb2 hb3 hlt c0 c1
        go_wp2_with (first | (at_builtin; refine wpList_append_own _ rfl _ _ 29 rfl W1.heap.size 9 i0 (.string .empty) 1 16 Try.underlying29 hi hz0 hz1 hz2 rfl (by decide) _ _ _ rfl (hown2.alloc _) ⟨W2.heap.size, 0, none⟩ 1 1 [.string (s.extract a b)] rfl rfl (news1 _ _ _) (ones1 _) (by unfold maxLen; omega) (by omega) (by simp; omega) ?_))
        intro v' w1 hown' hgrow _
        have hb1 : Below W1.heap.size W1 w1 := (HB2.out.alloc (by omega) _).grown hgrow (by simp; omega) (fun k hk => (hown2.lt k hk).1)
        rw [HT.out] at hown'
        clear hown2 hgrow HB2 HLT
        go_wp2_with fail
        go_roundw
        case rel => exact ⟨k + 1, by omega, by go_num, hown', hb1⟩
        case measure => (simp [intOf] <;> omega)
      · obtain rfl : k = ps.length := by omega
        have HE := Lib.hid (strs_end hown HL.out.symm hb hbw)
        clear hown hbw
        go_wp2_with fail
        go_ret
        exact HE.out
end Go.Proofs.Ytmdjmaijennmkaa
