/- What a law is told of a slice of bytes that came in. -/
import Derived.Test.YtlnldnenkajcdaaRx
import Derived.ProofKit
import Derived.OpenShut
import Derived.ShutString
import Derived.ChangeOld
set_option linter.unusedVariables false
set_option linter.unusedSimpArgs false
namespace Go.Proofs.Ytlnldnenkajcdaa
open Go.ChangeShapes Go.WideShapes Go.ChangeAt Go.RowKit
theorem open_bytes {H : Type} {enc : TypeId × Value → H} {P : Program} {w : World} {t e : TypeId} (ht : P.underlying t = some (.slice e)) (he : P.underlying e = some (.int .u8)) (hc : P.cellsOf e = 1)
    {a : Option Addr} {n c : Nat} {d : DataW H} {p : List MemPlace} (h : DataW.Trod enc P w 0 (fun _ => true) true t (.slice a n c) d p) : ∃ zs, IsBytes w a n c zs := by
  obtain ⟨fuel, hf⟩ := h
  rcases open_ints ht he hc hf with ⟨hcs, _⟩ | ⟨x, l, c', zs, hcs, _, hl, hm, hz, _, hcell, hwz⟩
  · simp [Value.cells] at hcs
    obtain ⟨rfl, rfl, rfl⟩ := hcs
    exact ⟨[], rfl, Nat.le_refl _, Nat.zero_le _, fun z hz => by simp at hz, Row.empty⟩
  · simp [Value.cells] at hcs
    obtain ⟨rfl, rfl, rfl⟩ := hcs
    have hz' : zs.length = c := by simpa using hz
    refine ⟨zs.take n, by rw [List.length_take]; omega, hl, hm, fun z hz2 => ?_, ?_⟩
    · have h2 := hwz z (List.mem_of_mem_take hz2)
      simpa [Lit.wf, IntKind.min, IntKind.max, IntKind.signed, IntKind.bits] using h2
    · intro j u hj
      rw [List.getElem?_map, List.getElem?_take] at hj
      by_cases hjn : j < n
      · rw [if_pos hjn] at hj
        have hjz : j < zs.length := by omega
        rw [List.getElem?_eq_getElem hjz] at hj
        simp at hj
        subst hj
        obtain ⟨b, off, rfl, hat⟩ := ints_at hcell (by omega)
        have h2 := hat j hjz
        have h3 : zs.getD j 0 = zs[j] := by simp [List.getD, hjz]
        rw [h3] at h2
        exact ⟨b, off, rfl, World.block_lt_of_cell? w _ h2, h2⟩
      · rw [if_neg hjn] at hj
        simp at hj
end Go.Proofs.Ytlnldnenkajcdaa
