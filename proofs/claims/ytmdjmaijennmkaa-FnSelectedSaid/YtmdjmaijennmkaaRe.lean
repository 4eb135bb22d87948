/- The contract of the program's replace, at both of its functions. -/
import Derived.Test.YtmdjmaijennmkaaTi
import Derived.Test.YtmdjmaijennmkaaCe
import Derived.Test.YtmdjmaijennmkaaCv
set_option linter.unusedVariables false
set_option linter.unusedSimpArgs false
namespace Go.Proofs.Ytmdjmaijennmkaa
open Go.RowKit
theorem wide_any (a b : Int) (w : World) (ha : -1000000 ≤ a ∧ a ≤ 1000000) (hb : -1000000 ≤ b ∧ b ≤ 1000000) :
    Calls Try.prog 52 #[.agg #[.int .i64 a, .int .i64 b]] w fun e w' => e = .returned (.tuple #[.int .i64 (wideC (a, b)).1, .int .i64 (wideC (a, b)).2]) ∧ Below w.heap.size w w' := by
  have h1 := fun W => ends_below a b W
  have hlo : -1000000 ≤ loC (a, b) ∧ loC (a, b) ≤ 1000000 := by unfold loC; simp only; omega
  have hw : (wideC (a, b)).1 = (if loC (a, b) = hiC (a, b) then max 0 (loC (a, b) - 1) else loC (a, b)) ∧ (wideC (a, b)).2 = hiC (a, b) := ⟨rfl, rfl⟩
  rw [hw.1, hw.2]
  clear hw
  generalize loC (a, b) = x at *
  generalize hiC (a, b) = y at *
  have H1 := Lib.hid h1
  clear h1
  have HB0 := Lib.hid (((Below.refl w.heap.size w).alloc (Nat.le_refl _) (.cells #[.int .i64 a, .int .i64 b] 44)))
  by_cases hxy : x = y
  · subst hxy
    rw [if_pos rfl]
    have hee : (x == x) = true := by simp
    go_enter Try.func52, Try.ntmps52
    go_wp2_with fail
    refine (H1.out _).mono ?_
    rintro e W2 ⟨rfl, hb2⟩
    have HB := Lib.hid (HB0.out.trans (hb2.mono (by simp)))
    clear hb2
    go_wp2_with fail
    all_goals
      go_ret2
      exact ⟨ret_pair (by omega) rfl, HB.out⟩
  · rw [if_neg hxy]
    have hee : (x == y) = false := by simp [hxy]
    go_enter Try.func52, Try.ntmps52
    go_wp2_with fail
    refine (H1.out _).mono ?_
    rintro e W2 ⟨rfl, hb2⟩
    have HB := Lib.hid (HB0.out.trans (hb2.mono (by simp)))
    clear hb2 hxy
    go_wp2_with fail
    go_ret2
    exact ⟨rfl, HB.out⟩
theorem ends_pt (a b : Int) (w : World) :
    Calls Try.prog 45 #[.agg #[.int .i64 a, .int .i64 b]] w fun e w' => e = .returned (.tuple #[.int .i64 (endsC (a, b)).1, .int .i64 (endsC (a, b)).2]) ∧ Below w.heap.size w w' := ends_below a b w
/-- What replace returns. -/
def ReP (x : List UInt8) (xs : List (Int × Int)) (w : World) (e : Ending) (w' : World) : Prop :=
  ∃ (A : Option Addr) (c : Nat), e = .returned (.tuple #[.string ⟨x.toArray⟩, .slice A xs.length c]) ∧ w'.ownsRow w.heap.size 44 2 (.slice A xs.length c) xs.length (pairs xs) ∧ Below w.heap.size w w'
theorem cu_step {cur : List (Int × Int)} {v : Int} : pairs cur ++ [Value.int .i64 v, .int .i64 v] = pairs (cur ++ [(v, v)]) := (pairs_snoc cur v v).symm

set_option maxRecDepth 100000 in
theorem iRe_ends (s put : ByteArray) (A : Option Addr) (c : Nat) (ps : List (Int × Int)) (w : World) (hs : s.size ≤ 120) (hp : put.size ≤ 1100000) (h : Row w w.heap.size A (pairs ps)) (hn : ps.length ≤ 8) (hf : fits s.size (ps.map endsC) 0) :
    Calls Try.prog 50 #[.string s, .slice A ps.length c, .string put, .func (.func 45) #[] #[]] w (ReP (tyFrom s.data.toList put.data.toList (ps.map endsC) 0) (cuFrom put.size (ps.map endsC) 0 0) w) := by
  obtain ⟨i0, hi, hz0, hz1, hz2⟩ := info_parts infoPair
  have H0 := Lib.hid (TyInv.start (put := put) hf)
  have hst := fun k (hk : k < (ps.map endsC).length) o a cur (h : TyInv s put (ps.map endsC) k o a cur) => h.step hk (by omega) hp
  have hdn := fun k (hk : (ps.map endsC).length ≤ k) o a cur (h : TyInv s put (ps.map endsC) k o a cur) => h.done hk
  have hEl : (ps.map endsC).length = ps.length := by simp
  have hEg : ∀ k (hk : k < ps.length) (hk2 : k < (ps.map endsC).length), (ps.map endsC)[k] = endsC ps[k] := fun k hk hk2 => by simp
  have hle := fun k o a cur (h : TyInv s put (ps.map endsC) k o a cur) => h.le
  have hln := fun k o a cur (h : TyInv s put (ps.map endsC) k o a cur) => And.intro h.2.2.2.1 h.2.2.2.2
  generalize tyFrom s.data.toList put.data.toList (ps.map endsC) 0 = R at *
  generalize hE : ps.map endsC = E at *
  have HE := Lib.hid (And.intro hEl (And.intro hEg (And.intro hle hln)))
  have HS := Lib.hid hst
  have HD := Lib.hid hdn
  have hT : 44 ≠ 5 := by decide
  have hT2 : 44 ≠ 77 := by decide
  have hbu0 := bu_start w
  have hbw0 : Below w.heap.size w (w.alloc (Obj.cells #[Value.pointer none, Value.slice none 0 0] 77)) := (Below.refl _ _).alloc (Nat.le_refl _) _
  have hz0' : w.heap.size + 1 ≤ (w.alloc (Obj.cells #[Value.pointer none, Value.slice none 0 0] 77)).heap.size := by simp
  have HB0 := Lib.hid (And.intro hbu0 (And.intro hbw0 hz0'))
  clear hst hdn hEl hEg hle hln hE hf hbu0 hbw0 hz0'
  go_enter Try.func50, Try.ntmps50
  go_wp2_with fail
  go_loopw [11, 12, 19] (fun nv av iv wr => ∃ (k : Nat) (o : List UInt8) (a : Nat) (cur : List (Int × Int)), k ≤ ps.length ∧ iv = .int .i64 k ∧ av = .int .i64 a ∧ Hid (TyInv s put E k o a cur) ∧ a ≤ s.size ∧ cur.length = k ∧ o.length ≤ k * 2000000 ∧ Lib.IsBuilderF 77 5 w.heap.size w.heap.size (Lib.byteCells o) wr ∧ wr.ownsRow (w.heap.size + 1) 44 2 nv cur.length (pairs cur) ∧ Below w.heap.size w wr ∧ w.heap.size + 1 ≤ wr.heap.size) (fun _ _ iv _ => ps.length - (intOf iv).toNat)
  case atStart => exact ⟨0, [], 0, [], Nat.zero_le _, rfl, rfl, Lib.hid H0.out, Nat.zero_le _, rfl, by simp, HB0.out.1, World.ownsRow_nil _ _ _ _, HB0.out.2.1, HB0.out.2.2⟩
  case round =>
    obtain ⟨k, o, a, cur, hk, rfl, rfl, hinv, has, hcl, hol, hbu, hown, hbw, hsz⟩ := hrel
    by_cases hkn : k < ps.length
    · obtain ⟨p, q, he, hap, hpq, hqs, hnx, hlen⟩ := HS.out k (by rw [HE.out.1]; exact hkn) o a cur hinv.out
      rw [HE.out.2.1 k hkn (by rw [HE.out.1]; exact hkn)] at he
      obtain ⟨g, z, rfl, hgz, c0, c1⟩ := (h.below hbw).pair hkn
      generalize (ps[k]'hkn) = y at c0 c1 he
      obtain ⟨y1, y2⟩ := y
      simp only at c0 c1
      have hk' : (k : Int) < (ps.length : Int) := by omega
      have hk0 : (0 : Int) ≤ (k : Int) := by omega
      have ha0 : (0 : Int) ≤ (a : Int) := by omega
      have hap' : (a : Int) ≤ (p : Int) := by omega
      have hps' : (p : Int) ≤ (s.size : Int) := by omega
      have hec := fun W => ends_pt y1 y2 W
      rw [he] at hec
      have hNb : o.length + (p - a) + put.size ≤ 30000000 := by have := Nat.mul_le_mul_right 2000000 (show k ≤ 8 by omega); omega
      have hNk : o.length + (p - a) + put.size ≤ (k + 1) * 2000000 := by rw [Nat.add_mul]; omega
      generalize o.length + (p - a) + put.size = N at hnx hlen hNb hNk
      have HNK := Lib.hid hNk
      clear hNk
      have hcb : cur.length ≤ 8 := by omega
      have HCL := Lib.hid hcl
      clear hcl
      have HC := Lib.hid hec
      have HNX := Lib.hid (And.intro hnx hlen)
      obtain ⟨An, cn, rfl⟩ := own_form2 hown
      have HW := Lib.hid (And.intro hbu (And.intro hown hbw))
      have hk8 : k * 2000000 ≤ 16000000 := Nat.mul_le_mul_right 2000000 (show k ≤ 8 by omega)
      clear hnx hlen hec he hinv hbu hown hbw h
      go_wp2_with fail
      refine (HC.out _).mono ?_
      rintro e W2 ⟨rfl, hb2⟩
      have hb3 : Below wr.heap.size wr W2 := ((Below.refl _ _).alloc (Nat.le_refl _) _).trans (hb2.mono (by simp))
      have hbu3 := builder_below HW.out.1 hb3
      have HW3 := Lib.hid (And.intro (own_below HW.out.2.1 hb3) (HW.out.2.2.trans (hb3.mono (by omega))))
      have hsz3 : w.heap.size + 1 ≤ W2.heap.size := Nat.le_trans hsz hb3.size
      clear hb2 hb3 HW c0 c1
      go_wp2_with fail
      refine (Try.Builder_WriteString_k _ _ _ _ _ hbu3 (by rw [Lib.byteCells_length, ByteArray.size_append, ByteArray.size_extract]; omega) (by omega)).mono ?_
      rintro e W4 ⟨rfl, hA4, hb4, ho4⟩
      rw [both_pieces] at hA4
      have HW4 := Lib.hid (And.intro (own_others HW3.out.1 ho4 hT (by omega)) (HW3.out.2.trans hb4))
      have hsz4 : w.heap.size + 1 ≤ W4.heap.size := Nat.le_trans hsz3 hb4.size
      clear hbu3 HW3 ho4 hb4
      have hlen := (Try.Builder_Len_f _ _ _ _ (.inr hA4)).mono (fun e w' (h : e = _ ∧ w' = W4) => (⟨h.1, h.2.symm⟩ : e = _ ∧ W4 = w'))
      rw [Lib.byteCells_length, HNX.out.2] at hlen
      have HLEN := Lib.hid hlen
      clear hlen
      go_wp2_with fail
      refine HLEN.out.mono ?_
      rintro e w' ⟨rfl, rfl⟩
      go_wp2_with fail
      refine HLEN.out.mono ?_
      rintro e w' ⟨rfl, rfl⟩
      have hown4 := HW4.out.1
      go_wp2_with (first | (at_builtin; refine wpList_append_own _ rfl _ _ 25 rfl (w.heap.size + 1) 44 i0 (.agg #[.int .i64 0, .int .i64 0]) 2 16 Try.underlying25 hi hz0 hz1 hz2 rfl (by decide) _ cur.length (pairs cur) rfl (hown4.alloc _) ⟨W4.heap.size, 0, none⟩ 1 1 [.int .i64 (N : Int), .int .i64 (N : Int)] rfl rfl (news2 _ _ _ _) (ones2 _ _) (by unfold maxLen; omega) (by omega) (by simp; omega) ?_))
      intro v5 w5 hown5 hg5 _
      have hbu5 := builder_grown (.inr (hA4.alloc (.cells #[.int .i64 (N : Int), .int .i64 (N : Int)] 44))) hg5 (fun g hg => by obtain ⟨cc, hcc⟩ := own_cells (hown4.alloc (.cells #[.int .i64 (N : Int), .int .i64 (N : Int)] 44)) g hg; exact ⟨cc, _, hcc⟩) hT2 hT
      have hb5 : Below w.heap.size w w5 := (HW4.out.2.alloc (by omega) _).grown hg5 (by simp; omega) (fun q hq => by have := (hown4.lt q hq).1; omega)
      have hsz5 : w.heap.size + 1 ≤ w5.heap.size := by have := hg5.size; simp at this; omega
      rw [cu_step] at hown5
      have HF := Lib.hid (And.intro hbu5 (And.intro hown5 (And.intro hb5 hsz5)))
      have hcl5 : (cur ++ [((N : Int), (N : Int))]).length = cur.length + 1 := by simp
      clear hA4 HW4 HLEN hown4 hown5 hg5 hbu5 hb5 hsz5
      go_wp2_with fail
      go_roundw
      case rel =>
        refine ⟨k + 1, _, q, _, by omega, by go_num, rfl, Lib.hid HNX.out.1, by omega, by rw [hcl5, HCL.out], by rw [HNX.out.2]; exact HNK.out, HF.out.1, ?_, HF.out.2.2.1, HF.out.2.2.2⟩
        rw [hcl5]; exact HF.out.2.1
      case measure => (simp [intOf] <;> omega)
    · obtain rfl : k = ps.length := by omega
      obtain ⟨d1, d2⟩ := HD.out _ (Nat.le_of_eq HE.out.1) o a cur hinv.out
      subst d2
      have hk8 : ps.length * 2000000 ≤ 16000000 := Nat.mul_le_mul_right 2000000 (show ps.length ≤ 8 by omega)
      have HDN := Lib.hid d1
      have ha0 : (0 : Int) ≤ (a : Int) := by omega
      have has' : (a : Int) ≤ (s.size : Int) := by omega
      obtain ⟨An, cn, rfl⟩ := own_form2 hown
      have HW := Lib.hid (And.intro hown hbw)
      have HCL := Lib.hid hcl
      clear d1 hinv hown hbw hcl h
      go_wp2_with fail
      refine (Try.Builder_WriteString_k _ _ _ _ _ hbu (by rw [Lib.byteCells_length, ByteArray.size_extract]; omega) (by omega)).mono ?_
      rintro e W2 ⟨rfl, hA2, hb2, ho2⟩
      rw [one_piece, HDN.out] at hA2
      have HW2 := Lib.hid (And.intro (own_others HW.out.1 ho2 hT (by omega)) (HW.out.2.trans hb2))
      have hsz2 : w.heap.size + 1 ≤ W2.heap.size := Nat.le_trans hsz hb2.size
      clear hbu HW ho2 hb2
      go_wp2_with fail
      refine (Try.Builder_String_any_k _ _ _ _ (.inr hA2) (by omega)).mono ?_
      rintro e W3 ⟨rfl, hA3, hb3, ho3⟩
      have HF := Lib.hid (And.intro (own_le (own_others HW2.out.1 ho3 hT (by omega)) (show w.heap.size ≤ w.heap.size + 1 by omega)) (HW2.out.2.trans hb3))
      clear hA2 hA3 hb3 ho3 HW2
      go_wp2_with fail
      go_ret2
      exact ⟨An, cn, rfl, HF.out⟩

set_option maxRecDepth 100000 in
theorem iRe_wide (s put : ByteArray) (A : Option Addr) (c : Nat) (ps : List (Int × Int)) (w : World) (hs : s.size ≤ 120) (hp : put.size ≤ 1100000) (h : Row w w.heap.size A (pairs ps)) (hn : ps.length ≤ 8) (hf : fits s.size (ps.map wideC) 0) (hlow : ∀ c ∈ ps, (-1000000 ≤ c.1 ∧ c.1 ≤ 1000000) ∧ (-1000000 ≤ c.2 ∧ c.2 ≤ 1000000)) :
    Calls Try.prog 50 #[.string s, .slice A ps.length c, .string put, .func (.func 52) #[] #[]] w (ReP (tyFrom s.data.toList put.data.toList (ps.map wideC) 0) (cuFrom put.size (ps.map wideC) 0 0) w) := by
  obtain ⟨i0, hi, hz0, hz1, hz2⟩ := info_parts infoPair
  have H0 := Lib.hid (TyInv.start (put := put) hf)
  have hst := fun k (hk : k < (ps.map wideC).length) o a cur (h : TyInv s put (ps.map wideC) k o a cur) => h.step hk (by omega) hp
  have hdn := fun k (hk : (ps.map wideC).length ≤ k) o a cur (h : TyInv s put (ps.map wideC) k o a cur) => h.done hk
  have hEl : (ps.map wideC).length = ps.length := by simp
  have hEg : ∀ k (hk : k < ps.length) (hk2 : k < (ps.map wideC).length), (ps.map wideC)[k] = wideC ps[k] := fun k hk hk2 => by simp
  have hle := fun k o a cur (h : TyInv s put (ps.map wideC) k o a cur) => h.le
  have hln := fun k o a cur (h : TyInv s put (ps.map wideC) k o a cur) => And.intro h.2.2.2.1 h.2.2.2.2
  generalize tyFrom s.data.toList put.data.toList (ps.map wideC) 0 = R at *
  generalize hE : ps.map wideC = E at *
  have HE := Lib.hid (And.intro hEl (And.intro hEg (And.intro hle hln)))
  have HS := Lib.hid hst
  have HD := Lib.hid hdn
  have hT : 44 ≠ 5 := by decide
  have hT2 : 44 ≠ 77 := by decide
  have hbu0 := bu_start w
  have hbw0 : Below w.heap.size w (w.alloc (Obj.cells #[Value.pointer none, Value.slice none 0 0] 77)) := (Below.refl _ _).alloc (Nat.le_refl _) _
  have hz0' : w.heap.size + 1 ≤ (w.alloc (Obj.cells #[Value.pointer none, Value.slice none 0 0] 77)).heap.size := by simp
  have HB0 := Lib.hid (And.intro hbu0 (And.intro hbw0 hz0'))
  clear hst hdn hEl hEg hle hln hE hf hbu0 hbw0 hz0'
  go_enter Try.func50, Try.ntmps50
  go_wp2_with fail
  go_loopw [11, 12, 19] (fun nv av iv wr => ∃ (k : Nat) (o : List UInt8) (a : Nat) (cur : List (Int × Int)), k ≤ ps.length ∧ iv = .int .i64 k ∧ av = .int .i64 a ∧ Hid (TyInv s put E k o a cur) ∧ a ≤ s.size ∧ cur.length = k ∧ o.length ≤ k * 2000000 ∧ Lib.IsBuilderF 77 5 w.heap.size w.heap.size (Lib.byteCells o) wr ∧ wr.ownsRow (w.heap.size + 1) 44 2 nv cur.length (pairs cur) ∧ Below w.heap.size w wr ∧ w.heap.size + 1 ≤ wr.heap.size) (fun _ _ iv _ => ps.length - (intOf iv).toNat)
  case atStart => exact ⟨0, [], 0, [], Nat.zero_le _, rfl, rfl, Lib.hid H0.out, Nat.zero_le _, rfl, by simp, HB0.out.1, World.ownsRow_nil _ _ _ _, HB0.out.2.1, HB0.out.2.2⟩
  case round =>
    obtain ⟨k, o, a, cur, hk, rfl, rfl, hinv, has, hcl, hol, hbu, hown, hbw, hsz⟩ := hrel
    by_cases hkn : k < ps.length
    · obtain ⟨p, q, he, hap, hpq, hqs, hnx, hlen⟩ := HS.out k (by rw [HE.out.1]; exact hkn) o a cur hinv.out
      rw [HE.out.2.1 k hkn (by rw [HE.out.1]; exact hkn)] at he
      obtain ⟨g, z, rfl, hgz, c0, c1⟩ := (h.below hbw).pair hkn
      have hlw := hlow _ (List.getElem_mem hkn)
      generalize (ps[k]'hkn) = y at c0 c1 he hlw
      obtain ⟨y1, y2⟩ := y
      simp only at c0 c1
      have hk' : (k : Int) < (ps.length : Int) := by omega
      have hk0 : (0 : Int) ≤ (k : Int) := by omega
      have ha0 : (0 : Int) ≤ (a : Int) := by omega
      have hap' : (a : Int) ≤ (p : Int) := by omega
      have hps' : (p : Int) ≤ (s.size : Int) := by omega
      have hec := fun W => wide_any y1 y2 W hlw.1 hlw.2
      rw [he] at hec
      have hNb : o.length + (p - a) + put.size ≤ 30000000 := by have := Nat.mul_le_mul_right 2000000 (show k ≤ 8 by omega); omega
      have hNk : o.length + (p - a) + put.size ≤ (k + 1) * 2000000 := by rw [Nat.add_mul]; omega
      generalize o.length + (p - a) + put.size = N at hnx hlen hNb hNk
      have HNK := Lib.hid hNk
      clear hNk
      have hcb : cur.length ≤ 8 := by omega
      have HCL := Lib.hid hcl
      clear hcl
      have HC := Lib.hid hec
      have HNX := Lib.hid (And.intro hnx hlen)
      obtain ⟨An, cn, rfl⟩ := own_form2 hown
      have HW := Lib.hid (And.intro hbu (And.intro hown hbw))
      have hk8 : k * 2000000 ≤ 16000000 := Nat.mul_le_mul_right 2000000 (show k ≤ 8 by omega)
      clear hnx hlen hec he hinv hbu hown hbw h
      go_wp2_with fail
      refine (HC.out _).mono ?_
      rintro e W2 ⟨rfl, hb2⟩
      have hb3 : Below wr.heap.size wr W2 := ((Below.refl _ _).alloc (Nat.le_refl _) _).trans (hb2.mono (by simp))
      have hbu3 := builder_below HW.out.1 hb3
      have HW3 := Lib.hid (And.intro (own_below HW.out.2.1 hb3) (HW.out.2.2.trans (hb3.mono (by omega))))
      have hsz3 : w.heap.size + 1 ≤ W2.heap.size := Nat.le_trans hsz hb3.size
      clear hb2 hb3 HW c0 c1
      go_wp2_with fail
      refine (Try.Builder_WriteString_k _ _ _ _ _ hbu3 (by rw [Lib.byteCells_length, ByteArray.size_append, ByteArray.size_extract]; omega) (by omega)).mono ?_
      rintro e W4 ⟨rfl, hA4, hb4, ho4⟩
      rw [both_pieces] at hA4
      have HW4 := Lib.hid (And.intro (own_others HW3.out.1 ho4 hT (by omega)) (HW3.out.2.trans hb4))
      have hsz4 : w.heap.size + 1 ≤ W4.heap.size := Nat.le_trans hsz3 hb4.size
      clear hbu3 HW3 ho4 hb4
      have hlen := (Try.Builder_Len_f _ _ _ _ (.inr hA4)).mono (fun e w' (h : e = _ ∧ w' = W4) => (⟨h.1, h.2.symm⟩ : e = _ ∧ W4 = w'))
      rw [Lib.byteCells_length, HNX.out.2] at hlen
      have HLEN := Lib.hid hlen
      clear hlen
      go_wp2_with fail
      refine HLEN.out.mono ?_
      rintro e w' ⟨rfl, rfl⟩
      go_wp2_with fail
      refine HLEN.out.mono ?_
      rintro e w' ⟨rfl, rfl⟩
      have hown4 := HW4.out.1
      go_wp2_with (first | (at_builtin; refine wpList_append_own _ rfl _ _ 25 rfl (w.heap.size + 1) 44 i0 (.agg #[.int .i64 0, .int .i64 0]) 2 16 Try.underlying25 hi hz0 hz1 hz2 rfl (by decide) _ cur.length (pairs cur) rfl (hown4.alloc _) ⟨W4.heap.size, 0, none⟩ 1 1 [.int .i64 (N : Int), .int .i64 (N : Int)] rfl rfl (news2 _ _ _ _) (ones2 _ _) (by unfold maxLen; omega) (by omega) (by simp; omega) ?_))
      intro v5 w5 hown5 hg5 _
      have hbu5 := builder_grown (.inr (hA4.alloc (.cells #[.int .i64 (N : Int), .int .i64 (N : Int)] 44))) hg5 (fun g hg => by obtain ⟨cc, hcc⟩ := own_cells (hown4.alloc (.cells #[.int .i64 (N : Int), .int .i64 (N : Int)] 44)) g hg; exact ⟨cc, _, hcc⟩) hT2 hT
      have hb5 : Below w.heap.size w w5 := (HW4.out.2.alloc (by omega) _).grown hg5 (by simp; omega) (fun q hq => by have := (hown4.lt q hq).1; omega)
      have hsz5 : w.heap.size + 1 ≤ w5.heap.size := by have := hg5.size; simp at this; omega
      rw [cu_step] at hown5
      have HF := Lib.hid (And.intro hbu5 (And.intro hown5 (And.intro hb5 hsz5)))
      have hcl5 : (cur ++ [((N : Int), (N : Int))]).length = cur.length + 1 := by simp
      clear hA4 HW4 HLEN hown4 hown5 hg5 hbu5 hb5 hsz5
      go_wp2_with fail
      go_roundw
      case rel =>
        refine ⟨k + 1, _, q, _, by omega, by go_num, rfl, Lib.hid HNX.out.1, by omega, by rw [hcl5, HCL.out], by rw [HNX.out.2]; exact HNK.out, HF.out.1, ?_, HF.out.2.2.1, HF.out.2.2.2⟩
        rw [hcl5]; exact HF.out.2.1
      case measure => (simp [intOf] <;> omega)
    · obtain rfl : k = ps.length := by omega
      obtain ⟨d1, d2⟩ := HD.out _ (Nat.le_of_eq HE.out.1) o a cur hinv.out
      subst d2
      have hk8 : ps.length * 2000000 ≤ 16000000 := Nat.mul_le_mul_right 2000000 (show ps.length ≤ 8 by omega)
      have HDN := Lib.hid d1
      have ha0 : (0 : Int) ≤ (a : Int) := by omega
      have has' : (a : Int) ≤ (s.size : Int) := by omega
      obtain ⟨An, cn, rfl⟩ := own_form2 hown
      have HW := Lib.hid (And.intro hown hbw)
      have HCL := Lib.hid hcl
      clear d1 hinv hown hbw hcl h
      go_wp2_with fail
      refine (Try.Builder_WriteString_k _ _ _ _ _ hbu (by rw [Lib.byteCells_length, ByteArray.size_extract]; omega) (by omega)).mono ?_
      rintro e W2 ⟨rfl, hA2, hb2, ho2⟩
      rw [one_piece, HDN.out] at hA2
      have HW2 := Lib.hid (And.intro (own_others HW.out.1 ho2 hT (by omega)) (HW.out.2.trans hb2))
      have hsz2 : w.heap.size + 1 ≤ W2.heap.size := Nat.le_trans hsz hb2.size
      clear hbu HW ho2 hb2
      go_wp2_with fail
      refine (Try.Builder_String_any_k _ _ _ _ (.inr hA2) (by omega)).mono ?_
      rintro e W3 ⟨rfl, hA3, hb3, ho3⟩
      have HF := Lib.hid (And.intro (own_le (own_others HW2.out.1 ho3 hT (by omega)) (show w.heap.size ≤ w.heap.size + 1 by omega)) (HW2.out.2.trans hb3))
      clear hA2 hA3 hb3 ho3 HW2
      go_wp2_with fail
      go_ret2
      exact ⟨An, cn, rfl, HF.out⟩
end Go.Proofs.Ytmdjmaijennmkaa
