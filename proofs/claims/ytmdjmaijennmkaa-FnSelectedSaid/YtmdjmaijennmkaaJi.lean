/- The contract of the program's JoinCursors. -/
import Derived.Test.YtmdjmaijennmkaaJo
import Derived.Test.YtmdjmaijennmkaaCv
set_option linter.unusedVariables false
set_option linter.unusedSimpArgs false
namespace Go.Proofs.Ytmdjmaijennmkaa
open Go.RowKit
theorem iJC_any (s : ByteArray) (A : Option Addr) (n c : Nat) (ps : List (Int × Int)) (w : World) (hs : s.size ≤ maxLen) (h : Row w w.heap.size A (pairs ps)) (hn : ps.length = n) (hmax : n ≤ 3000000) :
    Calls Try.prog 26 #[.string s, .slice A n c] w (PairsPost (jcL s ps) w) := by
  subst hn
  cases hok : plV s ps
  · have hj : jcL s ps = [] := by unfold jcL; rw [hok]; rfl
    rw [hj]
    go_enter Try.func26, Try.ntmps26
    go_wp2_with fail
    refine (placed_any s A _ c ps _ hs h rfl hmax).mono ?_
    rintro e W1 ⟨rfl, hb1⟩
    rw [hok]
    go_wp2_with fail
    go_ret
    exact ⟨none, 0, rfl, World.ownsRow_nil _ _ _ _, hb1⟩
  · have hj : jcL s ps = joinR ps := by unfold jcL; rw [hok]; rfl
    have h8 := (plV_iff.1 hok).2.2
    rw [hj]
    have hp := placed_any s A _ c ps w hs h rfl hmax
    rw [hok] at hp
    have hrest := fun (W : World) (hb : Below w.heap.size w W) => iJo_any A c ps W ((h.below hb).more hb.size) h8
    generalize joinR ps = r at *
    have HP := Lib.hid hp
    have HR := Lib.hid hrest
    clear hp hrest hok hj h
    go_enter Try.func26, Try.ntmps26
    go_wp2_with fail
    refine HP.out.mono ?_
    rintro e W1 ⟨rfl, hb1⟩
    go_wp2_with fail
    refine (HR.out W1 hb1).mono ?_
    rintro e W2 ⟨A2, c2, rfl, ho2, hb2⟩
    have HO := Lib.hid (And.intro (own_le ho2 hb1.size) (hb1.trans (hb2.mono hb1.size)))
    clear ho2 hb1 hb2
    go_wp2_with fail
    go_ret
    exact ⟨A2, c2, rfl, HO.out⟩
end Go.Proofs.Ytmdjmaijennmkaa
