/- The contracts of the program's TypeAll and EraseAll. -/
import Derived.Test.YtmdjmaijennmkaaRe
import Derived.Test.YtmdjmaijennmkaaJi
set_option linter.unusedVariables false
set_option linter.unusedSimpArgs false
namespace Go.Proofs.Ytmdjmaijennmkaa
open Go.RowKit
def TyP (x : ByteArray) (xs : List (Int × Int)) (b : Bool) (w : World) (e : Ending) (w' : World) : Prop :=
  ∃ (A : Option Addr) (c : Nat), e = .returned (.tuple #[.string x, .slice A xs.length c, .bool b]) ∧ w'.ownsRow w.heap.size 44 2 (.slice A xs.length c) xs.length (pairs xs) ∧ Below w.heap.size w w'
def ErP (x : ByteArray) (xs : List (Int × Int)) (w : World) (e : Ending) (w' : World) : Prop :=
  ∃ (A : Option Addr) (c : Nat), e = .returned (.tuple #[.string x, .slice A xs.length c]) ∧ w'.ownsRow w.heap.size 44 2 (.slice A xs.length c) xs.length (pairs xs) ∧ Below w.heap.size w w'
theorem ty_size {s put : ByteArray} {l : List (Int × Int)} (h : cuV s l = true) (hp : put.size ≤ 1100000) : (tyX s put l).size ≤ maxLen := by
  have key : ∀ (E : List (Int × Int)) (a : Nat), (tyFrom s.data.toList put.data.toList E a).length ≤ s.size + E.length * (s.size + put.size) := by
    intro E
    induction E with
    | nil => intro a; simp [tyFrom]
    | cons c E ih =>
      intro a
      have h1 := ih c.2.toNat
      have e1 : put.data.size = put.size := rfl
      have e2 : s.data.size = s.size := rfl
      simp only [tyFrom, List.length_append, List.length_take, List.length_drop, Array.length_toList, List.length_cons, Nat.add_mul, Nat.one_mul]
      omega
  obtain ⟨_, h2⟩ := cuV_iff.1 h
  obtain ⟨h3, _, h4⟩ := plV_iff.1 h2
  have hs := valid_size h3
  have hk := key (l.map endsC) 0
  have hm : (l.map endsC).length * (s.size + put.size) ≤ 8 * 1100200 := Nat.mul_le_mul (by simpa using h4) (by omega)
  show (tyFrom s.data.toList put.data.toList (l.map endsC) 0).toArray.size ≤ maxLen
  rw [List.size_toArray]; unfold maxLen; omega
theorem cu_bounds {s : ByteArray} {l : List (Int × Int)} (h : cuV s l = true) : ∀ c ∈ l, (-1000000 ≤ c.1 ∧ c.1 ≤ 1000000) ∧ (-1000000 ≤ c.2 ∧ c.2 ≤ 1000000) := by
  intro c hc
  obtain ⟨_, h2⟩ := cuV_iff.1 h
  obtain ⟨h3, h4, _⟩ := plV_iff.1 h2
  have hs := valid_size h3
  have := h4 c hc
  unfold loC hiC at this
  omega
theorem nil_own {w : World} {B : Nat} {ps : List (Int × Int)} (h : Row w B none (pairs ps)) : ps = [] := nil_row h
set_option maxRecDepth 100000 in
theorem iTA_any (s put : ByteArray) (A : Option Addr) (c : Nat) (ps : List (Int × Int)) (w : World) (hs : s.size ≤ maxLen) (hp : put.size ≤ 1100000) (h : Row w w.heap.size A (pairs ps)) (hmax : ps.length ≤ 3000000) :
    Calls Try.prog 29 #[.string s, .slice A ps.length c, .string put] w (TyP (tyS s put ps) (tyC s put ps) (tyOk s put ps) w) := by
  cases hok : cuV s ps
  · have h1 : tyS s put ps = ⟨#[]⟩ := by unfold tyS; rw [hok]; rfl
    have h2 : tyC s put ps = [] := by unfold tyC; rw [hok]; rfl
    have h3 : tyOk s put ps = false := by unfold tyOk; rw [hok]; rfl
    have hcv := iCV_any s A _ c ps w hs h rfl hmax
    rw [hok] at hcv
    rw [h1, h2, h3]
    have HCV := Lib.hid hcv
    clear hcv h1 h2 h3 hok h
    go_enter Try.func29, Try.ntmps29
    go_wp2_with fail
    refine HCV.out.mono ?_
    rintro e W1 ⟨rfl, hb1⟩
    go_wp2_with fail
    go_ret3
    exact ⟨none, 0, rfl, World.ownsRow_nil _ _ _ _, hb1⟩
  · have hpl := (cuV_iff.1 hok).2
    obtain ⟨hv, _, h8⟩ := plV_iff.1 hpl
    have hsz := valid_size hv
    have hcv := iCV_any s A _ c ps w hs h rfl hmax
    rw [hok] at hcv
    have hxs := ty_size hok hp
    have hre := fun W (hb : Below w.heap.size w W) => iRe_ends s put A c ps W hsz hp ((h.below hb).more hb.size) h8 (cu_fits hok)
    have hcl : (cuFrom put.size (ps.map endsC) 0 0).length ≤ 8 := by rw [cuFrom_len]; simpa using h8
    have h1 : tyS s put ps = if valid (tyX s put ps).data.toList = true then tyX s put ps else s := by unfold tyS; rw [hok]; rfl
    have h2 : tyC s put ps = if valid (tyX s put ps).data.toList = true then joinR (cuFrom put.size (ps.map endsC) 0 0) else ps := by unfold tyC; rw [hok]; rfl
    have h3 : tyOk s put ps = valid (tyX s put ps).data.toList := by unfold tyOk; rw [hok]; rfl
    rw [h1, h2, h3]
    have hxe : (⟨(tyFrom s.data.toList put.data.toList (ps.map endsC) 0).toArray⟩ : ByteArray) = tyX s put ps := rfl
    unfold ReP at hre
    rw [hxe] at hre
    generalize tyX s put ps = X at *
    generalize cuFrom put.size (ps.map endsC) 0 0 = K at *
    have HCV := Lib.hid hcv
    have HRE := Lib.hid hre
    have HROW := Lib.hid h
    clear hcv hre h1 h2 h3 hxe hok hpl hv h
    cases hval : valid X.data.toList
    · cases A with
      | none =>
        obtain rfl := nil_row HROW.out
        go_enter Try.func29, Try.ntmps29
        go_wp2_with fail
        refine HCV.out.mono ?_
        rintro e W1 ⟨rfl, hb1⟩
        go_wp2_with fail
        refine (HRE.out W1 hb1).mono ?_
        rintro e W2 ⟨A2, c2, rfl, ho2, hb2⟩
        have HB := Lib.hid (below_on hb1 hb2)
        clear ho2 hb1 hb2
        go_wp2_with fail
        refine (iTV_any _ _ hxs).mono ?_
        rintro e w' ⟨rfl, rfl⟩
        rw [hval]
        go_wp2_with fail
        go_ret3
        exact ⟨none, 0, rfl, World.ownsRow_nil _ _ _ _, HB.out⟩
      | some ad =>
        obtain ⟨i0, hi, hz0, hz1, hz2⟩ := info_parts infoPair
        have hnews : ∀ W, Below w.heap.size w W → ∀ j u, (pairs ps)[j]? = some u → W.cell? (ad.add j) = some u := by
          intro W hb j u hj
          obtain ⟨b, o, e, _, hc⟩ := (HROW.out.below hb) j u hj
          injection e with e
          subst e
          rw [Go.WideShapes.add_plain]; exact hc
        have hpn := pairs_len ps
        have HN := Lib.hid (And.intro hnews hpn)
        clear hnews hpn
        go_enter Try.func29, Try.ntmps29
        go_wp2_with fail
        refine HCV.out.mono ?_
        rintro e W1 ⟨rfl, hb1⟩
        go_wp2_with fail
        refine (HRE.out W1 hb1).mono ?_
        rintro e W2 ⟨A2, c2, rfl, ho2, hb2⟩
        have HB := Lib.hid (below_on hb1 hb2)
        clear ho2 hb1 hb2
        go_wp2_with fail
        refine (iTV_any _ _ hxs).mono ?_
        rintro e w' ⟨rfl, rfl⟩
        rw [hval]
        have hnil : W2.ownsRow w.heap.size 44 2 (.slice none 0 0) 0 [] := World.ownsRow_nil _ _ _ _
        have hN := HN.out.1 W2 HB.out
        have hzz := HB.out.size
        go_wp2_with (first | (at_builtin; refine wpList_append_own _ rfl _ _ 25 rfl w.heap.size 44 i0 (.agg #[.int .i64 0, .int .i64 0]) 2 16 Try.underlying25 hi hz0 hz1 hz2 rfl (by decide) _ 0 [] rfl hnil ad ps.length c (pairs ps) rfl HN.out.2 hN (pairs_ones _) (by unfold maxLen; omega) (by omega) hzz ?_))
        intro v w3 hown hgrow _
        have hb3 : Below w.heap.size w w3 := HB.out.grown hgrow hzz (fun k hk => by cases hk)
        have hown' : w3.ownsRow w.heap.size 44 2 v ps.length (pairs ps) := hown
        obtain ⟨A3, c3, rfl⟩ := own_form2 hown'
        have HF := Lib.hid (And.intro hown' hb3)
        clear hown hown' hgrow hb3
        go_wp2_with fail
        go_ret3
        exact ⟨A3, c3, rfl, HF.out⟩
    · go_enter Try.func29, Try.ntmps29
      go_wp2_with fail
      refine HCV.out.mono ?_
      rintro e W1 ⟨rfl, hb1⟩
      go_wp2_with fail
      refine (HRE.out W1 hb1).mono ?_
      rintro e W2 ⟨A2, c2, rfl, ho2, hb2⟩
      have hr2 := Row.of_own2 ho2
      have HB := Lib.hid (below_on hb1 hb2)
      clear ho2 hb1 hb2
      go_wp2_with fail
      refine (iTV_any _ _ hxs).mono ?_
      rintro e w' ⟨rfl, rfl⟩
      rw [hval]
      go_wp2_with fail
      refine (iJo_any A2 c2 K W2 hr2 hcl).mono ?_
      rintro e W3 ⟨A3, c3, rfl, ho3, hb3⟩
      have HF := Lib.hid (And.intro (own_le ho3 HB.out.size) (below_on HB.out hb3))
      clear ho3 hb3 hr2 HB
      go_wp2_with fail
      go_ret3
      exact ⟨A3, c3, rfl, HF.out⟩
set_option maxRecDepth 100000 in
theorem iEA_any (s : ByteArray) (A : Option Addr) (c : Nat) (ps : List (Int × Int)) (w : World) (hs : s.size ≤ maxLen) (h : Row w w.heap.size A (pairs ps)) (hmax : ps.length ≤ 3000000) :
    Calls Try.prog 31 #[.string s, .slice A ps.length c] w (ErP (erS s ps) (erC s ps) w) := by
  have hmf : ∀ (fn : Fn) (first cap : Array Value) (w : World), (Instr.makeFunc fn first cap).run Try.prog w = .ok (.func fn first cap) w := fun _ _ _ _ => rfl
  cases hok : cuV s ps
  · have h1 : erS s ps = ⟨#[]⟩ := by unfold erS; rw [hok]; rfl
    have h2 : erC s ps = [] := by unfold erC; rw [hok]; rfl
    have hcv := iCV_any s A _ c ps w hs h rfl hmax
    rw [hok] at hcv
    rw [h1, h2]
    have HCV := Lib.hid hcv
    clear hcv h1 h2 hok h
    go_enter Try.func31, Try.ntmps31
    go_wp2_with fail
    refine HCV.out.mono ?_
    rintro e W1 ⟨rfl, hb1⟩
    go_wp2_with fail
    go_ret2
    exact ⟨none, 0, rfl, World.ownsRow_nil _ _ _ _, hb1⟩
  · have hpl := (cuV_iff.1 hok).2
    obtain ⟨hv, _, h8⟩ := plV_iff.1 hpl
    have hsz := valid_size hv
    have hcv := iCV_any s A _ c ps w hs h rfl hmax
    rw [hok] at hcv
    have hre := fun W (hb : Below w.heap.size w W) => iRe_wide s ⟨#[]⟩ A c ps W hsz (by show (0 : Nat) ≤ _; omega) ((h.below hb).more hb.size) h8 (cu_wide hok) (cu_bounds hok)
    have hcl : (cuFrom (⟨#[]⟩ : ByteArray).size (ps.map wideC) 0 0).length ≤ 8 := by rw [cuFrom_len]; simpa using h8
    have h1 : erS s ps = erX s ps := by unfold erS; rw [hok]; rfl
    have h2 : erC s ps = joinR (cuFrom (⟨#[]⟩ : ByteArray).size (ps.map wideC) 0 0) := by unfold erC; rw [hok]; rfl
    rw [h1, h2]
    have hxe : (⟨(tyFrom s.data.toList (⟨#[]⟩ : ByteArray).data.toList (ps.map wideC) 0).toArray⟩ : ByteArray) = erX s ps := rfl
    unfold ReP at hre
    rw [hxe] at hre
    generalize erX s ps = X at *
    generalize cuFrom (⟨#[]⟩ : ByteArray).size (ps.map wideC) 0 0 = K at *
    have HCV := Lib.hid hcv
    have HRE := Lib.hid hre
    clear hcv hre h1 h2 hxe hok hpl hv h
    go_enter Try.func31, Try.ntmps31
    go_wp2_with fail
    refine HCV.out.mono ?_
    rintro e W1 ⟨rfl, hb1⟩
    go_wp2_with fail
    refine (HRE.out W1 hb1).mono ?_
    rintro e W2 ⟨A2, c2, rfl, ho2, hb2⟩
    have hr2 := Row.of_own2 ho2
    have HB := Lib.hid (below_on hb1 hb2)
    clear ho2 hb1 hb2
    go_wp2_with fail
    refine (iJo_any A2 c2 K W2 hr2 hcl).mono ?_
    rintro e W3 ⟨A3, c3, rfl, ho3, hb3⟩
    have HF := Lib.hid (And.intro (own_le ho3 HB.out.size) (below_on HB.out hb3))
    clear ho3 hb3 hr2 HB
    go_wp2_with fail
    go_ret2
    exact ⟨A3, c3, rfl, HF.out⟩
end Go.Proofs.Ytmdjmaijennmkaa
