/- Slices of the call's own and marks: small lemmas; append at a step of a region. -/
import Derived.Test.YtlnldnenkajcdaaVd
import Derived.Maps.AppendAt
import Derived.Deep.RegionHeld3
import Derived.Deep.AppendLies
set_option linter.unusedVariables false
set_option linter.unusedSimpArgs false
namespace Go.Proofs.Ytlnldnenkajcdaa
open Go.RowKit
theorem grown_below {w w' : World} {row : Option Nat} {B : Nat} (h : w.grownBy w' row) (hB : B ≤ w.heap.size) (hr : ∀ k, row = some k → B ≤ k) : Below B w w' := (Below.refl B w).grown h hB hr
theorem below_on {a W W' : World} (h : Below a.heap.size a W) (h' : Below W.heap.size W W') : Below a.heap.size a W' := h.trans (h'.mono h.size)
theorem row_on {a W : World} {A : Option Addr} {xs : List Value} (h : Row a a.heap.size A xs) (hb : Below a.heap.size a W) : Row W W.heap.size A xs := (h.below hb).more hb.size
theorem drewN_on (W : World) (q : Nat) : Below W.heap.size W (W.drewN q) := below_drewN (Below.refl _ _) q
section
variable {w w' : World} {base n : Nat} {e : TypeId} {v : Value} {size : Nat} {xs : List Value}
theorem own_below (h : w.ownsRow base e size v n xs) (hb : Below w.heap.size w w') : w'.ownsRow base e size v n xs :=
  h.kept (row := none) ⟨hb.os, hb.tape, hb.output, hb.size, fun i hi _ => hb.block i hi⟩ (by cases v.ownBlock <;> simp)
end
theorem own_form2 {w : World} {base e size n : Nat} {v : Value} {xs : List Value} (h : w.ownsRow base e size v n xs) : ∃ A c, v = .slice A n c := by
  rcases h.2 with ⟨h1, h2⟩ | ⟨g, cap, cur, h1, _⟩
  · exact ⟨none, 0, by rw [h1, h2]⟩
  · exact ⟨_, cap, h1⟩
section
variable {P : Program} {w : World}
theorem own_form_any {w : World} {base e size n : Nat} {v : Value} {xs : List Value} (h : w.ownsRow base e size v n xs) : ∃ A c, v = .slice A n c := by
  rcases h.2 with ⟨h1, h2⟩ | ⟨g, cap, cur, h1, _⟩
  · exact ⟨none, 0, by rw [h1, h2]⟩
  · exact ⟨_, cap, h1⟩
/-- append at a step of a region that draws: nothing may be appended too; where the new slice lies. -/
theorem step_append_at {ops : Array Oper} {o : Oper} {a : Act} {K : Act → World → Prop} {Q : Exit → Act → World → Prop} {E : Prop} (hgd : o.guard = none) (s x : Operand) (t : TypeId)
    (ho : o.op = .call { callee := .builtin .append, args := #[s, x], argTypes := #[t, t] })
    (base : Nat) (e : TypeId) (i : TypeInfo) (z : Value) (size bytes : Nat) (ht : P.underlying t = some (.slice e)) (hi : P.info? e = some i) (hz : i.zero = some z)
    (hsize : i.size = size) (hby : i.bytes = bytes) (hzs : z.cells.size = size) (hsz : 0 < size)
    (v : Value) (n : Nat) (xs : List Value) (hs : a.eval s = v) (hown : w.ownsRow base e size v n xs)
    (ad : Addr) (m c : Nat) (news : List Value) (hx : a.eval x = .slice (some ad) m c) (hl : news.length = m * size) (hnews : ∀ j u, news[j]? = some u → w.cell? (ad.add j) = some u) (h1 : ∀ u ∈ news, u.oneCell' = true)
    (h63 : n + m ≤ maxLen) (hbytes : (n + m) * bytes ≤ 140737488355328) (hbase : base ≤ w.heap.size)
    (h : ∀ A cap w', w'.ownsRow base e size (.slice A (n + m) cap) (n + m) (xs ++ news) → w.grownBy w' v.ownBlock → ((Value.slice A (n + m) cap).ownBlock = v.ownBlock ∨ (Value.slice A (n + m) cap).ownBlock = some w.heap.size) → K (a.put o.dst (.slice A (n + m) cap)) w') :
    if Region.wanted o (yielded ops a.tmps) = true then Oper.wp P o a w K Q else E := by
  have hw : Region.wanted o (yielded ops a.tmps) = true := by simp [Region.wanted, hgd]
  rw [if_pos hw]
  obtain ⟨v', w', hr, h2, h3, _, h5⟩ := run_append_own_at (P := P) w base t o.type e i z size bytes ht hi hz hsize hby hzs hsz v n xs hown ad m c news hl hnews h1 h63 hbytes hbase
  obtain ⟨A, cap, rfl⟩ := own_form_any h2
  unfold Oper.wp execOp
  simp only [ho, resolve, invoke, builtin, Sem.run_bind, Sem.run_pure, Result.andThen_ok, List.map_toArray, List.map_cons, List.map_nil, hs, hx, hr]
  exact h A cap w' h2 h3 h5
end
theorem infoMark : (Try.prog.info? 46).map (fun i => (i.zero, i.size, i.bytes)) = some (some (.agg #[.int .i64 0, .bool false]), 2, 16) := by kernel_rfl
theorem info_parts2 {P : Program} {t : TypeId} {z : Value} {n b : Nat} (h : (P.info? t).map (fun i => (i.zero, i.size, i.bytes)) = some (some z, n, b)) : ∃ i, P.info? t = some i ∧ i.zero = some z ∧ i.size = n ∧ i.bytes = b := by
  obtain ⟨i, h1, h2⟩ := Option.map_eq_some_iff.1 h
  simp only [Prod.mk.injEq] at h2
  exact ⟨i, h1, h2.1, h2.2.1, h2.2.2⟩
theorem newsM (W : World) (T : TypeId) (a b : Value) : ∀ (j : Nat) (u : Value), [a, b][j]? = some u → (W.alloc (.cells #[a, b] T)).cell? ((⟨W.heap.size, 0, none⟩ : Addr).add j) = some u := by
  intro j u hj
  match j, hj with
  | 0, hj => simp at hj; subst hj; simp [Addr.add]
  | 1, hj => simp at hj; subst hj; simp [Addr.add]
theorem onesM (a : Int) (b : Bool) : ∀ u ∈ [Value.int .i64 a, Value.bool b], u.oneCell' = true := by
  intro u hu; simp at hu; rcases hu with rfl | rfl <;> rfl
def MarksPost (ms : List (Int × Bool)) (w : World) (e : Ending) (w' : World) : Prop :=
  ∃ (A : Option Addr) (c : Nat), e = .returned (.slice A ms.length c) ∧ w'.ownsRow w.heap.size 46 2 (.slice A ms.length c) ms.length (mks ms) ∧ Below w.heap.size w w'
/-- The marks after a change. -/
def mmL (s put : ByteArray) (a c : Int) (ms : List (Int × Bool)) : List (Int × Bool) := if (mvB s ms && fitB s put a c) = true then ms.map fun m => (mvI a c put.size m.1 m.2, m.2) else []
theorem mm_take (a c z : Int) {ms : List (Int × Bool)} {k : Nat} (hk : k < ms.length) {m : Int} {b : Bool} (h : ms[k] = (m, b)) : mks ((ms.take k).map fun m => (mvI a c z m.1 m.2, m.2)) ++ [.int .i64 (mvI a c z m b), .bool b] = mks ((ms.take (k + 1)).map fun m => (mvI a c z m.1 m.2, m.2)) := by
  rw [List.take_succ_eq_append_getElem hk, List.map_append, List.map_singleton, h, mks_snoc]
set_option maxHeartbeats 4000000 in
theorem sCF_any (s put : ByteArray) (a c : Int) (w : World) (hs : s.size ≤ 200) (hput : put.size ≤ 2000000) :
    Calls Try.prog 34 #[.string s, .agg #[.int .i64 a, .int .i64 c, .string put]] w fun e w' => e = .returned (.bool (fitB s put a c)) ∧ Below w.heap.size w w' := by
  have hsm : s.size ≤ maxLen := by unfold maxLen; omega
  have hpm : put.size ≤ maxLen := by unfold maxLen; omega
  have hTV := fun W => sTV_any s W hsm
  have hPL := fun W => l1Plain_any put W hpm
  have hI1 := fun W => l1In_any a 0 s.size W
  have HB := Lib.hid ((Below.refl w.heap.size w).alloc (Nat.le_refl _) (.cells #[.int .i64 a, .int .i64 c, .string put] 36))
  cases hv : valid s.data.toList
  · have hf : fitB s put a c = false := by unfold fitB inB place; rw [hv]; rfl
    rw [hf]
    rw [hv] at hTV
    have HTV := Lib.hid hTV
    clear hTV hPL hI1
    go_enter Try.func34, Try.ntmps34
    go_wp2_with fail
    refine (HTV.out _).mono ?_
    rintro e w' ⟨rfl, rfl⟩
    go_wp2_with fail
    go_ret
    exact ⟨rfl, HB.out⟩
  rw [hv] at hTV
  have HTV := Lib.hid hTV
  cases hp : inI a 0 s.size
  · have hf : fitB s put a c = false := by unfold fitB inB place; rw [hv, hp]; rfl
    rw [hf]
    rw [hp] at hI1
    have HI1 := Lib.hid hI1
    clear hTV hPL hI1
    go_enter Try.func34, Try.ntmps34
    go_wp2_with fail
    refine (HTV.out _).mono ?_
    rintro e w' ⟨rfl, rfl⟩
    go_wp2_with fail
    refine (HI1.out _).mono ?_
    rintro e w' ⟨rfl, rfl⟩
    go_wp2_with fail
    go_ret
    exact ⟨rfl, HB.out⟩
  have hpl : place s a = true := by unfold place; rw [hv, hp]; rfl
  obtain ⟨n, rfl, hn⟩ := place_nat hpl
  rw [hp] at hI1
  have HI1 := Lib.hid hI1
  have hI2 := fun W => l1In_any c 0 ((s.size : Int) - n) W
  have x5 : IntKind.i64.wrap ((s.size : Int) - (n : Int)) = (s.size : Int) - (n : Int) := IntWalk.i64_in _ (by omega)
  cases hc : inI c 0 ((s.size : Int) - n)
  · have hf : fitB s put n c = false := by unfold fitB inB; rw [hpl, hc]; rfl
    rw [hf]
    rw [hc] at hI2
    have HI2 := Lib.hid hI2
    clear hTV hPL hI1 hI2
    go_enter Try.func34, Try.ntmps34
    go_wp2_with fail
    refine (HTV.out _).mono ?_
    rintro e w' ⟨rfl, rfl⟩
    go_wp2_with fail
    refine (HI1.out _).mono ?_
    rintro e w' ⟨rfl, rfl⟩
    go_wp2_with fail
    refine (HI2.out _).mono ?_
    rintro e w' ⟨rfl, rfl⟩
    go_wp2_with fail
    go_ret
    exact ⟨rfl, HB.out⟩
  have hib : inB s n c = true := by unfold inB; rw [hpl, hc]; rfl
  obtain ⟨p, q, hpe, rfl, hpq, hqs, _, hap⟩ := inB_nat hib
  obtain rfl : n = p := by omega
  have hf : fitB s put n ((q : Int) - n) = (allOk put.data.toList && decide (s.size - (q - n) + put.size ≤ 120)) := by
    unfold fitB
    rw [hib, hap, ac_valid hv hpq hqs]; rfl
  rw [hf]
  rw [hc] at hI2
  have HI2 := Lib.hid hI2
  cases ho : allOk put.data.toList
  · rw [ho] at hPL
    have HPL := Lib.hid hPL
    clear hTV hPL hI1 hI2
    go_enter Try.func34, Try.ntmps34
    go_wp2_with fail
    refine (HTV.out _).mono ?_
    rintro e w' ⟨rfl, rfl⟩
    go_wp2_with fail
    refine (HI1.out _).mono ?_
    rintro e w' ⟨rfl, rfl⟩
    go_wp2_with fail
    refine (HI2.out _).mono ?_
    rintro e w' ⟨rfl, rfl⟩
    go_wp2_with fail
    refine (HPL.out _).mono ?_
    rintro e w' ⟨rfl, rfl⟩
    go_wp2_with fail
    go_ret
    exact ⟨rfl, HB.out⟩
  · rw [ho] at hPL
    have HPL := Lib.hid hPL
    clear hTV hPL hI1 hI2 hf hap hib hc hpl hp
    go_enter Try.func34, Try.ntmps34
    go_wp2_with fail
    refine (HTV.out _).mono ?_
    rintro e w' ⟨rfl, rfl⟩
    go_wp2_with fail
    refine (HI1.out _).mono ?_
    rintro e w' ⟨rfl, rfl⟩
    go_wp2_with fail
    refine (HI2.out _).mono ?_
    rintro e w' ⟨rfl, rfl⟩
    go_wp2_with fail
    refine (HPL.out _).mono ?_
    rintro e w' ⟨rfl, rfl⟩
    go_wp2_with fail
    go_ret
    exact ⟨ret_bool (by rw [Bool.true_and, Bool.eq_iff_iff, decide_eq_true_eq, decide_eq_true_eq]; omega), HB.out⟩
end Go.Proofs.Ytlnldnenkajcdaa
