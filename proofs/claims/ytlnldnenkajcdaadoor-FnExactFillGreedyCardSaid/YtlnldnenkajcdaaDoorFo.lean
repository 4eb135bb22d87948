/- The contract of the program's WordsOf. -/
import Derived.Test.YtlnldnenkajcdaaDoorFn
import Derived.Lib.SmallJoins
set_option linter.unusedVariables false
set_option linter.unusedSimpArgs false
namespace Go.Proofs.YtlnldnenkajcdaaDoor
open Go.RowKit
/-- The library's table of white space is as its initialiser lays it. -/
def Tab (w : World) : Prop := Lib.TabIs Tryd.prog w "strings.asciiSpace" .u8 Lib.asciiSpaceTab
theorem tab_named : Tryd.prog.globalNamed "strings.asciiSpace" = some 0 := by kernel_rfl
theorem Tab.below {w w' : World} (h : Tab w) (hb : Below w.heap.size w w') : Tab w' := Go.Joins.tab_stays tab_named h hb (Nat.le_refl _)
theorem Tab.drewN {w : World} (h : Tab w) (n : Nat) : Tab (w.drewN n) := h.below (below_drewN (Below.refl _ _) n)
theorem iWO_any (s : ByteArray) (w : World) (hs : s.size ≤ maxLen) (hM : Tab w) :
    Calls Tryd.prog 8 #[.string s] w (StrsPost (wordsL s) w) := by
  have hs' := hs
  unfold maxLen at hs'
  have hTV := fun W => iTV_any s W hs
  cases hv : valid s.data.toList
  · have hw : wordsL s = [] := by unfold wordsL; rw [if_neg (by simp [hv])]
    rw [hw]
    rw [hv] at hTV
    have HTV := Lib.hid hTV
    clear hTV
    go_enter Tryd.func8, Tryd.ntmps8
    go_wp2_with fail
    refine (HTV.out _).mono ?_
    rintro e w' ⟨rfl, rfl⟩
    go_wp2_with fail
    go_ret
    exact ⟨none, 0, rfl, World.ownsRow_nil _ _ _ _, Below.refl _ _⟩
  · rw [hv] at hTV
    have hwl := words_small s
    have hwf := words_fields hv
    have h120 := valid_size hv
    have hc := Tryd.strings_Fields s w (by omega) (ascii_of hv) hM
    have hlen : (Lib.fields s.data.toList).length = (wordsL s).length := by rw [hwf, List.length_map]
    have hvals : (Lib.fields s.data.toList).map (fun l => Value.string ⟨l.toArray⟩) = strVals (wordsL s) := by rw [hwf, strVals, List.map_map]; rfl
    rw [hlen, hvals] at hc
    have hrow : (w.alloc (.cells (strVals (wordsL s)).toArray 9)).ownsRow w.heap.size 9 1 (.slice (some ⟨w.heap.size, 0, none⟩) (wordsL s).length (wordsL s).length) (wordsL s).length (strVals (wordsL s)) := by
      have h9 := World.ownsRow_lit (base := w.heap.size) (e := 9) (size := 1) w (strVals (wordsL s)).toArray (wordsL s).length (Nat.le_refl _) (by unfold maxLen; omega) (by simp [strVals])
      simpa using h9
    have HR := Lib.hid (And.intro hrow ((Below.refl w.heap.size w).alloc (Nat.le_refl _) (.cells (strVals (wordsL s)).toArray 9)))
    have HC := Lib.hid hc
    have HTV := Lib.hid hTV
    generalize wordsL s = ws at *
    clear hTV hc hrow hlen hvals hwf
    go_enter Tryd.func8, Tryd.ntmps8
    go_wp2_with fail
    refine (HTV.out _).mono ?_
    rintro e w' ⟨rfl, rfl⟩
    go_wp2_with fail
    refine HC.out.mono ?_
    rintro e w' ⟨rfl, rfl⟩
    go_wp2_with fail
    go_ret
    exact ⟨_, _, rfl, HR.out.1, HR.out.2⟩
end Go.Proofs.YtlnldnenkajcdaaDoor
