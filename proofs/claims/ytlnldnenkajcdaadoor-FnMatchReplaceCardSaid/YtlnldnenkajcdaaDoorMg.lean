/- Words and small contracts for the walks of MatchEnd. -/
import Derived.Test.YtlnldnenkajcdaaDoorMq
import Derived.Test.YtlnldnenkajcdaaDoorSs
set_option linter.unusedVariables false
set_option linter.unusedSimpArgs false
namespace Go.Proofs.YtlnldnenkajcdaaDoor
open Go.RowKit
theorem infoBool : (Tryd.prog.info? 4).map (fun i => (i.zero, i.size, i.bytes)) = some (some (.bool false), 1, 1) := by kernel_rfl

theorem iFits_any (a b : Int) (w : World) (ha0 : 0 ≤ a) (ha : a ≤ 255) (hb0 : 0 ≤ b) (hb : b ≤ 255) (h10 : a ≠ 10) :
    Calls Tryd.prog 59 #[.int .u8 a, .int .u8 b] w fun e w' => e = .returned (.bool (fitB a b)) ∧ w = w' := by
  by_cases h1 : a = b
  · have hf : fitB a b = true := by unfold fitB; apply decide_eq_true; omega
    rw [hf]
    subst h1
    clear hf
    go_enter Tryd.func59, Tryd.ntmps59
    go_wp2
    go_ret
    exact ⟨rfl, rfl⟩
  · have e1 : (a == b) = false := by simp [h1]
    by_cases h2 : a = 46
    · subst h2
      have hf : fitB 46 b = !(b == 10) := by unfold fitB; by_cases h : b = 10 <;> simp [h]
      rw [hf]
      clear hf h1
      cases h3 : (b == 10)
      all_goals
        go_enter Tryd.func59, Tryd.ntmps59
        go_wp2
        go_ret
        exact ⟨by first | rfl | simp [h3, bne], rfl⟩
    · have hf : fitB a b = false := by unfold fitB; apply decide_eq_false; omega
      have e2 : (a == 46) = false := by simp [h2]
      rw [hf]
      clear hf h1 h2
      go_enter Tryd.func59, Tryd.ntmps59
      go_wp2
      go_ret
      exact ⟨rfl, rfl⟩
/-- What holds behind one store of 'true' at place q, and behind two. -/
theorem stores_rel {wr w : World} {g gn N q : Nat} {f G : Nat → Bool} (hn : BR wr gn N (cut G q)) (ha : BR wr g N f) (hb : Below w.heap.size w wr) (hq : q < N) (hne : gn ≠ g) (hgw : w.heap.size ≤ gn) :
    (G q = true → BR (wr.setCell ⟨gn, q, none⟩ (.bool true)) gn N (cut G (q + 1)) ∧ BR (wr.setCell ⟨gn, q, none⟩ (.bool true)) g N f ∧ Below w.heap.size w (wr.setCell ⟨gn, q, none⟩ (.bool true))) ∧
    (G q = true → BR ((wr.setCell ⟨gn, q, none⟩ (.bool true)).setCell ⟨gn, q, none⟩ (.bool true)) gn N (cut G (q + 1)) ∧ BR ((wr.setCell ⟨gn, q, none⟩ (.bool true)).setCell ⟨gn, q, none⟩ (.bool true)) g N f ∧ Below w.heap.size w ((wr.setCell ⟨gn, q, none⟩ (.bool true)).setCell ⟨gn, q, none⟩ (.bool true))) := by
  have h1 := hn.set hq true
  have h2 := ha.other (p := ⟨gn, q, none⟩) hne (.bool true)
  have h3 := hb.setCell (p := ⟨gn, q, none⟩) hgw (.bool true)
  refine ⟨fun hG => ⟨h1.congr (fun j _ => cut_set hG j), h2, h3⟩, fun hG => ⟨(h1.set hq true).congr (fun j _ => cut_set2 hG j), h2.other (p := ⟨gn, q, none⟩) hne (.bool true), h3.setCell (p := ⟨gn, q, none⟩) hgw (.bool true)⟩⟩
/-- What holds at the head of the outer loop. -/
def MRel (p s : ByteArray) (m : Nat) (w : World) (av iv : Value) (wr : World) : Prop :=
  ∃ (i g : Nat) (f : Nat → Bool), av = .slice (some ⟨g, 0, none⟩) (s.size + 1) (s.size + 1) ∧ iv = .int .i64 i ∧ BR wr g (s.size + 1) f ∧ w.heap.size ≤ g ∧ Below w.heap.size w wr ∧ EInv p s m i f
theorem cut_self (G : Nat → Bool) (q : Nat) : cut G q q = false := by unfold cut; rw [decide_eq_false (by omega)]; rfl
theorem store_any {wr w : World} {g gn N q : Nat} {f G : Nat → Bool} (hn : BR wr gn N (cut G q)) (ha : BR wr g N f) (hb : Below w.heap.size w wr) (hq : q < N) (hne : gn ≠ g) (hgw : w.heap.size ≤ gn) (b : Bool) (hG : G q = b) :
    BR (wr.setCell ⟨gn, q, none⟩ (.bool b)) gn N (cut G (q + 1)) ∧ BR (wr.setCell ⟨gn, q, none⟩ (.bool b)) g N f ∧ Below w.heap.size w (wr.setCell ⟨gn, q, none⟩ (.bool b)) :=
  ⟨(hn.set hq b).congr (fun j _ => cut_set hG j), ha.other (p := ⟨gn, q, none⟩) hne (.bool b), hb.setCell (p := ⟨gn, q, none⟩) hgw (.bool b)⟩
theorem star_no {p : ByteArray} {i : Nat} (h : starAt p i = false) : (∃ h1 : i + 1 < p.size, ((p[i + 1].toNat : Int) == 42) = false) ∨ decide ((i : Int) + 1 < (p.size : Int)) = false := by
  by_cases h1 : i + 1 < p.size
  · left
    refine ⟨h1, ?_⟩
    have h2 : ¬ (i + 1 < p.size ∧ byteI p (i + 1) = 42) := by simpa [starAt] using h
    rw [← byteI_at h1]
    simp
    omega
  · right; simp; omega
end Go.Proofs.YtlnldnenkajcdaaDoor
