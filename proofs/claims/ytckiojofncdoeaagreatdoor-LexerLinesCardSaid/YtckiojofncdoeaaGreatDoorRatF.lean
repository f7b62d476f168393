/- rational: Add, where the first is whole. -/
import Derived.Test.YtckiojofncdoeaaGreatDoorRatE
namespace Go.Proofs.YtckiojofncdoeaaGreatDoor
open Go.RowKit

theorem sg_times (s : Bool) (a b : Nat) : sg s (a * b) = sg s a * (b : Int) := by
  cases s
  · simp [sg]
  · simp only [sg, if_true]
    rw [Int.natCast_mul, Int.neg_mul]
theorem add_z (x y : Rat) {b b' : Bool} {P D P' D' : Nat} (hb : b = decide (x.num < 0)) (hb' : b' = decide (y.num < 0)) (hP : P = x.num.natAbs) (hD : D = x.den) (hP' : P' = y.num.natAbs) (hD' : D' = y.den) :
    sg (!(b == false) && decide (0 < P * D')) (P * D') + sg (!(b' == false) && decide (0 < P' * D)) (P' * D) = x.num * y.den + y.num * x.den := by
  have e1 : ∀ c : Bool, (!(c == false)) = c := fun c => by cases c <;> rfl
  rw [e1, e1, sg_and, sg_and, sg_times, sg_times, hb, hb', hP, hP', hD, hD', sg_self, sg_self]
theorem fr_z (z : Int) (Q : Nat) : fr (decide (z < 0)) z.natAbs Q = mkRat z Q := by rw [fr, sg_self]

theorem digits_sum_le {a b k : Nat} (ha : (digits a).length ≤ k) (hb : (digits b).length ≤ k) : (digits (a + b)).length ≤ k + 1 := by
  refine digits_length_le ?_
  have h1 : a < bB ^ k := by
    have := val_lt (Wf.digits a); rw [val_digits] at this
    exact Nat.lt_of_lt_of_le this (Nat.pow_le_pow_right bB_pos ha)
  have h2 : b < bB ^ k := by
    have := val_lt (Wf.digits b); rw [val_digits] at this
    exact Nat.lt_of_lt_of_le this (Nat.pow_le_pow_right bB_pos hb)
  rw [Nat.pow_succ]
  have h3 : bB ^ k * 2 ≤ bB ^ k * bB := Nat.mul_le_mul_left _ (by rw [bB_eq]; omega)
  omega
theorem cells442 {W w : World} {g k f : Nat} {a b c d a' b' c' d' p q : Value} {t t' t'' : TypeId} (hb : Below W.heap.size W w) (h : W.heap[g]? = some (.cells #[a, b, c, d] t (0, 0))) (h' : W.heap[k]? = some (.cells #[a', b', c', d'] t' (0, 0))) (h'' : W.heap[f]? = some (.cells #[p, q] t'' (0, 0))) :
    w.cell? ⟨g, 0, none⟩ = some a ∧ w.cell? ⟨g, 1, none⟩ = some b ∧ w.cell? ⟨g, 2, none⟩ = some c ∧ w.cell? ⟨g, 3, none⟩ = some d ∧
    w.cell? ⟨k, 0, none⟩ = some a' ∧ w.cell? ⟨k, 1, none⟩ = some b' ∧ w.cell? ⟨k, 2, none⟩ = some c' ∧ w.cell? ⟨k, 3, none⟩ = some d' ∧ w.cell? ⟨f, 0, none⟩ = some p ∧ w.cell? ⟨f, 1, none⟩ = some q := by
  have h1 := cells4f (heap_at hb h)
  have h2 := cells4f (heap_at hb h')
  have h3 := cells2g (heap_at hb h'')
  exact ⟨h1.1, h1.2.1, h1.2.2.1, h1.2.2.2.1, h2.1, h2.2.1, h2.2.2.1, h2.2.2.2.1, h3.1, h3.2.1⟩
/-- The same behind the stores into a block r that is none of the three. -/
theorem cells442r {W w : World} {g k f r : Nat} {a b c d a' b' c' d' p q x y z : Value} {t t' t'' : TypeId} (hb : Below W.heap.size W w) (hg : r ≠ g) (hk : r ≠ k) (hf : r ≠ f) (h : W.heap[g]? = some (.cells #[a, b, c, d] t (0, 0))) (h' : W.heap[k]? = some (.cells #[a', b', c', d'] t' (0, 0))) (h'' : W.heap[f]? = some (.cells #[p, q] t'' (0, 0))) :
    let v := ((w.setCell ⟨r, 0, none⟩ x).setCell ⟨r, 1, none⟩ y).setCell ⟨r, 2, none⟩ z
    v.cell? ⟨g, 0, none⟩ = some a ∧ v.cell? ⟨g, 1, none⟩ = some b ∧ v.cell? ⟨g, 2, none⟩ = some c ∧ v.cell? ⟨g, 3, none⟩ = some d ∧
    v.cell? ⟨k, 0, none⟩ = some a' ∧ v.cell? ⟨k, 1, none⟩ = some b' ∧ v.cell? ⟨k, 2, none⟩ = some c' ∧ v.cell? ⟨k, 3, none⟩ = some d' ∧ v.cell? ⟨f, 0, none⟩ = some p ∧ v.cell? ⟨f, 1, none⟩ = some q := by
  have e : ∀ i, r ≠ i → (((w.setCell ⟨r, 0, none⟩ x).setCell ⟨r, 1, none⟩ y).setCell ⟨r, 2, none⟩ z).heap[i]? = w.heap[i]? := fun i hi => by rw [heap_set_ne hi, heap_set_ne hi, heap_set_ne hi]
  have h1 := cells4f ((e g hg).trans (heap_at hb h))
  have h2 := cells4f ((e k hk).trans (heap_at hb h'))
  have h3 := cells2g ((e f hf).trans (heap_at hb h''))
  exact ⟨h1.1, h1.2.1, h1.2.2.1, h1.2.2.2.1, h2.1, h2.2.1, h2.2.2.1, h2.2.2.2.1, h3.1, h3.2.1⟩

set_option maxHeartbeats 12800000 in
theorem radd_any (w : World) (v u : Value) (x y : Rat) (hv : RatV w v x) (hu : RatV w u y) (hs : (digits x.num.natAbs).length ≤ 1000000) (hs' : (digits x.den).length ≤ 1000000)
    (ht : (digits y.num.natAbs).length ≤ 1000000) (ht' : (digits y.den).length ≤ 1000000) (hone : x.den = 1) :
    Calls Tryz.prog 30 #[v, u] w fun e w' => ∃ r, e = .returned r ∧ Below w.heap.size w w' ∧ RatO w.heap.size w' r (x + y) := by
  obtain ⟨b, A, n, ca, B, m, cb, rfl, hx, hca, hcb, hr⟩ := hv.cut
  obtain ⟨b', A', n', ca', B', m', cb', rfl, hx', hca', hcb', hr'⟩ := hu.cut
  obtain ⟨P, hP⟩ : ∃ P, P = x.num.natAbs := ⟨_, rfl⟩
  obtain ⟨D, hD⟩ : ∃ D, D = x.den := ⟨_, rfl⟩
  obtain ⟨P', hP'⟩ : ∃ P, P = y.num.natAbs := ⟨_, rfl⟩
  obtain ⟨D', hD'⟩ : ∃ D, D = y.den := ⟨_, rfl⟩
  rw [← hP, ← hD] at hx hr
  rw [← hP', ← hD'] at hx' hr'
  have hn := hx.out.2.1; have hm := hx.out.2.2; have hn' := hx'.out.2.1; have hm' := hx'.out.2.2
  have Hdn : Hid (D ≠ 0) := Lib.hid (by rw [hD]; exact x.den_nz)
  have Hdn' : Hid (D' ≠ 0) := Lib.hid (by rw [hD']; exact y.den_nz)
  rw [← hP, ← hn] at hs; rw [← hD, ← hm] at hs'; rw [← hP', ← hn'] at ht; rw [← hD', ← hm'] at ht'
  have Hn := Lib.hid hn; have Hm := Lib.hid hm; have Hn' := Lib.hid hn'; have Hm' := Lib.hid hm'
  have Hz := Lib.hid (add_z x y hx.out.1 hx'.out.1 hP hD hP' hD')
  have Hsum : Hid (mkRat (x.num * y.den + y.num * x.den) (D * D') = x + y) := Lib.hid (by
    have h := fr_add x y
    rw [fr_z] at h
    rw [hD, hD']; exact h)
  have HD1e : D = 1 := by rw [hD, hone]
  have Hw1 : Hid (D' = 1 → decide ((x + y).num < 0) = decide (sg b P + sg b' P' < 0) ∧ (x + y).num.natAbs = (sg b P + sg b' P').natAbs ∧ (x + y).den = 1) := Lib.hid (fun h => by
    obtain ⟨h1, h2⟩ := fr_int hone (show y.den = 1 by rw [← hD']; exact h)
    rw [h1, h2, hx.out.1, hx'.out.1, hP, hP', sg_self, sg_self]
    exact ⟨rfl, rfl, rfl⟩)
  clear hx hx' hn hm hn' hm' hP hD hP' hD' hone
  have hlN : (digits (P * D')).length ≤ n + m' := digits_mul_le (by rw [← Hn.out]; exact Nat.le_refl _) (by rw [← Hm'.out]; exact Nat.le_refl _)
  have hlD : (digits (P' * D)).length ≤ n' + m := digits_mul_le (by rw [← Hn'.out]; exact Nat.le_refl _) (by rw [← Hm.out]; exact Nat.le_refl _)
  have hlQ : (digits (D * D')).length ≤ m + m' := digits_mul_le (by rw [← Hm.out]; exact Nat.le_refl _) (by rw [← Hm'.out]; exact Nat.le_refl _)
  have HlN := Lib.hid hlN; have HlD := Lib.hid hlD; have HlQ := Lib.hid hlQ; clear hlN hlD hlQ
  have Hw := Lib.hid (bthree (w := w) (.cells #[.bool b, .slice A n ca, .slice B m cb] 31) (.cells #[.bool b', .slice A' n' ca', .slice B' m' cb'] 31) (.cells #[.bool false, .slice none 0 0, .slice none 0 0] 31))
  have Hp := Lib.hid (push3 w (.cells #[.bool b, .slice A n ca, .slice B m cb] 31) (.cells #[.bool b', .slice A' n' ca', .slice B' m' cb'] 31) (.cells #[.bool false, .slice none 0 0, .slice none 0 0] 31))
  go_enter Tryz.func30, Tryz.ntmps30
  go_wp2
  generalize (((w.alloc (.cells #[.bool b, .slice A n ca, .slice B m cb] 31)).alloc (.cells #[.bool b', .slice A' n' ca', .slice B' m' cb'] 31)).alloc (.cells #[.bool false, .slice none 0 0, .slice none 0 0] 31)) = W at *
  have hB1 : w.heap.size + 1 + 1 < W.heap.size := by rw [Hp.out.2.2.2]; omega
  have hB0 : w.heap.size < W.heap.size := by omega
  have hB2 : w.heap.size + 1 < W.heap.size := by omega
  have Hb0 := Lib.hid (Drew.below (Drew.refl W).step1)
  have hS0 := cells33 Hb0.out (show w.heap.size < W.heap.size by omega) (show w.heap.size + 1 < W.heap.size by omega) Hp.out.1 Hp.out.2.1
  generalize hbb1 : decide (D = 1) = d1
  generalize hbb2 : decide (D' = 1) = d2
  have HD1 := Lib.hid hbb1; have HD2 := Lib.hid hbb2; clear hbb1 hbb2
  have r1 : ∀ w' : World, Below W.heap.size W w' → Calls Tryz.prog 54 #[.agg #[.bool b, .slice A n ca, .slice B m cb]] w' fun e w'' => e = .returned (.agg #[.bool b, .slice A n ca, .slice B m cb, .bool d1]) ∧ Below w'.heap.size w' w'' := fun w' hb => by
    have h := read_any w' D Hdn.out b A B n ca cb (by rw [← Hm.out]; exact hcb) (by rw [← Hm.out]; omega) (hr.out.2.ext (bnext Hw.out hb))
    rw [← Hm.out, HD1.out] at h
    exact h
  have r2 : ∀ w' : World, Below W.heap.size W w' → Calls Tryz.prog 54 #[.agg #[.bool b', .slice A' n' ca', .slice B' m' cb']] w' fun e w'' => e = .returned (.agg #[.bool b', .slice A' n' ca', .slice B' m' cb', .bool d2]) ∧ Below w'.heap.size w' w'' := fun w' hb => by
    have h := read_any w' D' Hdn'.out b' A' B' n' ca' cb' (by rw [← Hm'.out]; exact hcb') (by rw [← Hm'.out]; omega) (hr'.out.2.ext (bnext Hw.out hb))
    rw [← Hm'.out, HD2.out] at h
    exact h
  have R1 := Lib.hid r1; have R2 := Lib.hid r2; clear r1 r2
  refine wp_region_inv2 (n := 6) [8, 9, 10, 11, 5, 6] [undef, undef, undef, undef, undef, undef]
    (TwoR W (.agg #[.bool b, .slice A n ca, .slice B m cb]) (.agg #[.bool b, .slice A n ca, .slice B m cb, .bool d1]) (.agg #[.bool b', .slice A' n' ca', .slice B' m' cb']) (.agg #[.bool b', .slice A' n' ca', .slice B' m' cb', .bool d2])
      (.cells #[.bool false, .slice none 0 0, .slice none 0 0, .bool false] 79) (.cells #[.bool false, .slice none 0 0, .slice none 0 0, .bool false] 79))
    (TwoR W (.agg #[.bool b, .slice A n ca, .slice B m cb]) (.agg #[.bool b, .slice A n ca, .slice B m cb, .bool d1]) (.agg #[.bool b', .slice A' n' ca', .slice B' m' cb']) (.agg #[.bool b', .slice A' n' ca', .slice B' m' cb', .bool d2])
      (.cells #[.bool b, .slice A n ca, .slice B m cb, .bool d1] 79) (.cells #[.bool b', .slice A' n' ca', .slice B' m' cb', .bool d2] 79))
    (TwoI W (.agg #[.bool b, .slice A n ca, .slice B m cb]) (.agg #[.bool b, .slice A n ca, .slice B m cb, .bool d1]) (.agg #[.bool b', .slice A' n' ca', .slice B' m' cb']) (.agg #[.bool b', .slice A' n' ca', .slice B' m' cb', .bool d2])
      (.cells #[.bool false, .slice none 0 0, .slice none 0 0, .bool false] 79)) (by kernel_rfl) (by kernel_rfl) rfl TwoI.start ?_ (fun L vs w' hL hI => hI.done hL) ?_ ?_
  · intro i o hi ho L vs w' hI hL hpre Q' K hK
    have hI' := hI
    obtain ⟨hbW, x1, x2, x3, x4, p, q, rfl, h0, h1, h2, h3, h4, h5, h6⟩ := hI'
    have hi6 : i = 0 ∨ i = 1 ∨ i = 2 ∨ i = 3 ∨ i = 4 ∨ i = 5 := by omega
    rcases hi6 with rfl | rfl | rfl | rfl | rfl | rfl
    · clear h0 h1 h2 h3 h4 h5 h6 hpre hL
      obtain ⟨k1, k2, k3⟩ := cells3 hbW hB0 Hp.out.1
      simp only [List.getElem?_cons_zero, Option.some.injEq] at ho
      subst ho
      simp only [putAll, Act.put, List.setIfInBounds_toArray, List.set_cons_zero, List.set_cons_succ]
      go_wp2
      exact hK [_, x2, x3, x4, p, q] _ hI.load1
    · have e0 := h0 (hpre ⟨0, .data⟩ (by simp at ho; rw [← ho]; simp) rfl)
      clear h0 h1 h2 h3 h4 h5 h6 hpre hL
      subst e0
      simp only [List.getElem?_cons_zero, List.getElem?_cons_succ, Option.some.injEq] at ho
      subst ho
      simp only [putAll, Act.put, List.setIfInBounds_toArray, List.set_cons_zero, List.set_cons_succ]
      go_wp2_with fail
      refine (R1.out _ hbW).mono ?_
      rintro e w6 ⟨rfl, hb6⟩
      exact hK [_, _, x3, x4, p, q] _ (hI.call1 hb6)
    · clear h0 h1 h2 h3 h4 h5 h6 hpre hL
      obtain ⟨k1, k2, k3⟩ := cells3 hbW hB2 Hp.out.2.1
      simp only [List.getElem?_cons_zero, List.getElem?_cons_succ, Option.some.injEq] at ho
      subst ho
      simp only [putAll, Act.put, List.setIfInBounds_toArray, List.set_cons_zero, List.set_cons_succ]
      go_wp2
      exact hK [x1, x2, _, x4, p, q] _ hI.load2
    · have e0 := h2 (hpre ⟨2, .data⟩ (by simp at ho; rw [← ho]; simp) rfl)
      clear h0 h1 h2 h3 h4 h5 h6 hpre hL
      subst e0
      simp only [List.getElem?_cons_zero, List.getElem?_cons_succ, Option.some.injEq] at ho
      subst ho
      simp only [putAll, Act.put, List.setIfInBounds_toArray, List.set_cons_zero, List.set_cons_succ]
      go_wp2_with fail
      refine (R2.out _ hbW).mono ?_
      rintro e w6 ⟨rfl, hb6⟩
      exact hK [x1, x2, _, _, p, q] _ (hI.call2 hb6)
    · clear h0 h1 h2 h3 h4 h5 h6 hpre hL
      simp only [List.getElem?_cons_zero, List.getElem?_cons_succ, Option.some.injEq] at ho
      subst ho
      simp only [putAll, Act.put, List.setIfInBounds_toArray, List.set_cons_zero, List.set_cons_succ]
      go_wp2
      exact hK [x1, x2, x3, x4, _, q] _ hI.alloc1
    · clear h0 h1 h2 h3 h4 h5 h6 hpre hL
      simp only [List.getElem?_cons_zero, List.getElem?_cons_succ, Option.some.injEq] at ho
      subst ho
      simp only [putAll, Act.put, List.setIfInBounds_toArray, List.set_cons_zero, List.set_cons_succ]
      go_wp2
      exact hK [x1, x2, x3, x4, p, _] _ hI.alloc2
  · rintro vs w' ⟨hbW, g, k, rfl, hg, hk, hgk, hz1, hz2⟩ Q' hQ
    have ha := cells4f hz1
    have hm := stores4 (a := .bool b) (b := .slice A n ca) (c := .slice B m cb) (d := .bool d1) hz1 hz2 hgk
    have hb := cells4f hm.2
    have hm2 := stores4 (a := .bool b') (b := .slice A' n' ca') (c := .slice B' m' cb') (d := .bool d2) hm.2 hm.1 (Ne.symm hgk)
    have hfin := bset4 (bset4 hbW hg (.bool b) (.slice A n ca) (.slice B m cb) (.bool d1)) hk (.bool b') (.slice A' n' ca') (.slice B' m' cb') (.bool d2)
    have hQ' := Lib.hid hQ; have Hfin := Lib.hid hfin; have M2 := Lib.hid hm2; have Hz1 := Lib.hid hz1; have Hz2 := Lib.hid hz2
    clear hQ hfin hm hm2 hz1 hz2
    simp only [putAll, Act.put, List.setIfInBounds_toArray, List.set_cons_zero, List.set_cons_succ, List.drop_succ_cons, List.drop_zero]
    go_wp2
    exact hQ'.out [_, _, _, _, _, _] _ ⟨Hfin.out, g, k, rfl, hg, hk, hgk, M2.out.2, M2.out.1⟩
  · rintro vs w' ⟨hbW, g, k, rfl, hg, hk, hgk, hz1, hz2⟩
    have ha := cells4f hz1
    have hb := cells4f hz2
    simp only [putAll, Act.put, List.setIfInBounds_toArray, List.set_cons_zero, List.set_cons_succ]
    have Hz1 := Lib.hid hz1; have Hz2 := Lib.hid hz2; have HbW := Lib.hid hbW
    clear hz1 hz2 hbW
    have hd1 : d1 = true := by rw [← HD1.out]; exact decide_eq_true HD1e
    subst hd1
    by_cases hy : D' = 1
    · have hd2 : d2 = true := by rw [← HD2.out]; exact decide_eq_true hy
      subst hd2
      have hRA := hr.out.1.ext (bnext Hw.out HbW.out)
      have hRB := hr'.out.1.ext (bnext Hw.out HbW.out)
      have HRA := Lib.hid hRA; have HRB := Lib.hid hRB; clear hRA hRB
      have HyD := Lib.hid hy
      clear hy HD1e
      go_wp2_with fail
      refine (iadd_any w' b b' A A' n ca n' ca' (digits P) (digits P') Hn.out.symm hca (by omega) HRA.out Hn'.out.symm hca' (by omega) HRB.out).mono ?_
      rintro e w5 ⟨v5, rfl, hb5, ho5⟩
      rw [val_digits, val_digits] at ho5 ⊢
      have Hw2 := Lib.hid (Hw1.out HyD.out)
      generalize sg b P + sg b' P' = z at *
      obtain ⟨A5, c5, rfl, hc5, _⟩ := ho5.rv
      have Hb5 := Lib.hid (bnext HbW.out hb5); have Ho5 := Lib.hid ho5; clear hb5 ho5
      generalize hbz : decide (z < 0) = bz at *
      clear hbz
      go_wp2_with fail
      refine (whole_any w5 bz A5 _ c5).mono ?_
      rintro e w6 ⟨g6, rfl, hb6, ho6⟩
      rw [show [(1 : Int)] = digits 1 from (digits_one (by decide) (by decide)).symm] at ho6
      have Hb6 := Lib.hid (bnext Hb5.out hb6); have Ho6 := Lib.hid (Ho5.out.ext hb6); have Ho7 := Lib.hid ho6; clear hb6 ho6 Ho5
      have hlt5 : w.heap.size + 1 + 1 < w'.heap.size := Nat.lt_of_lt_of_le hB1 HbW.out.size
      have hlt6 : w.heap.size + 1 + 1 < w5.heap.size := Nat.lt_of_lt_of_le hB1 Hb5.out.size
      obtain ⟨k1, k2, k3⟩ := cells3 Hb6.out hB1 Hp.out.2.2.1
      have k4 := thaw' Hb6.out hB1 Hp.out.2.2.1 0; have k5 := thaw' Hb6.out hB1 Hp.out.2.2.1 1; have k6 := thaw' Hb6.out hB1 Hp.out.2.2.1 2
      go_wp2
      refine bodyPost_ret (v := .agg #[.bool bz, .slice A5 (digits z.natAbs).length c5, .slice (some ⟨g6, 0, none⟩) 1 1]) ?_ rfl ⟨_, rfl, ?_, ?_⟩
      · rw [results_cell1 rfl]; simp [go_sem, asAddr, Result.andThen, k1, k2, k3]
      · exact bset3 (bnext Hw.out Hb6.out) (Nat.le_trans (Nat.le_succ _) (Nat.le_succ _)) _ _ _
      · exact RatO.of Hw2.out ((Ho6.out.set3 hlt5 _ _ _).mono (bnext Hw.out HbW.out).size) ((Ho7.out.set3 hlt6 _ _ _).mono (bnext Hw.out Hb5.out).size)
    · have hd2 : d2 = false := by rw [← HD2.out]; exact decide_eq_false hy
      subst hd2
      have hN1 : n ≤ 1073741824 := by omega
      have hN2 : n' ≤ 1073741824 := by omega
      have hM1 : m ≤ 1073741824 := by omega
      have hM2 : m' ≤ 1073741824 := by omega
      have hcmp : (cmpN D D' == 0) = false := by
        rw [HD1e]; unfold cmpN; split
        · rfl
        · split
          · rfl
          · exact absurd (by omega) hy
      have hRB := hr.out.2.ext (bnext Hw.out HbW.out)
      have hRD := hr'.out.2.ext (bnext Hw.out HbW.out)
      have HRB := Lib.hid hRB; have HRD := Lib.hid hRD; clear hRB hRD HD1e hy
      go_upto_region 6 with (go_at_call 61; refine (compare_any w' B B' m cb m' cb' (digits D) (digits D') Hm.out.symm hcb (by omega) HRB.out Hm'.out.symm hcb' (by omega) HRD.out).mono ?_; rintro e w5 ⟨rfl, hq⟩; rw [val_digits, val_digits]; have Hb5 := Lib.hid (Drew.below hq); have hc5 := cells44 (Drew.below hq) Hz1.out Hz2.out; clear hq; generalize cmpN D D' = cm at hcmp ⊢)
      have hK0 := Lib.hid (Drew.below (Drew.refl w5).step1)
      have hS0 := cells44 hK0.out (heap_at Hb5.out Hz1.out) (heap_at Hb5.out Hz2.out)
      have HzA := Lib.hid (heap_at Hb5.out Hz1.out); have HzB := Lib.hid (heap_at Hb5.out Hz2.out)
      have Hb6 := Lib.hid (bnext HbW.out Hb5.out)
      clear hc5 ha hb hcmp
      have HZ := Hz
      have HlZ : Hid ((digits (x.num * y.den + y.num * x.den).natAbs).length ≤ 1073741824) := Lib.hid (by
        rw [← Hz.out]
        have h1 : (sg (!(b == false) && decide (0 < P * D')) (P * D') + sg (!(b' == false) && decide (0 < P' * D)) (P' * D)).natAbs ≤ P * D' + P' * D := by
          have h2 := Int.natAbs_add_le (sg (!(b == false) && decide (0 < P * D')) (P * D')) (sg (!(b' == false) && decide (0 < P' * D)) (P' * D))
          rw [sg_abs, sg_abs] at h2
          exact h2
        have h3 := digits_length_mono h1
        have h4 := digits_sum_le (k := 2000000) (Nat.le_trans HlN.out (by omega)) (Nat.le_trans HlD.out (by omega))
        omega)
      generalize x.num * y.den + y.num * x.den = z at *
      go_cut [7] (fun p wx => ∃ (f : Nat) (s : Bool) (u : Value), p = .pointer (some ⟨f, 0, none⟩) ∧ Hid (s = decide (z < 0)) ∧ Below w5.heap.size w5 wx ∧ w5.heap.size ≤ f ∧ wx.heap[f]? = some (.cells #[.bool s, u] 29 (0, 0)) ∧ OwnU w5.heap.size wx u (digits z.natAbs))
      case first =>
        go_region_held3 (fun w' => w'.cell? ⟨g, 0, none⟩ = some (.bool b) ∧ w'.cell? ⟨g, 1, none⟩ = some (.slice A n ca) ∧ w'.cell? ⟨g, 2, none⟩ = some (.slice B m cb) ∧ w'.cell? ⟨g, 3, none⟩ = some (.bool true) ∧ w'.cell? ⟨k, 0, none⟩ = some (.bool b') ∧ w'.cell? ⟨k, 1, none⟩ = some (.slice A' n' ca') ∧ w'.cell? ⟨k, 2, none⟩ = some (.slice B' m' cb') ∧ w'.cell? ⟨k, 3, none⟩ = some (.bool false))
          (first
            | exact hS0
            | exact cells44 (hK0.out.alloc (Nat.le_refl _) _) HzA.out HzB.out
            | exact cells44 hK1.out HzA.out HzB.out
            | exact cells44 (hK1.out.alloc hK1.out.size _) HzA.out HzB.out
            | exact cells44 hK2.out HzA.out HzB.out
            | exact cells44 (hK2.out.alloc hK2.out.size _) HzA.out HzB.out
            | exact cells44 hK3.out HzA.out HzB.out
            | exact cells44 (hK3.out.alloc hK3.out.size _) HzA.out HzB.out
            | exact cells44 hK4.out HzA.out HzB.out
            | exact cells44 (hK4.out.alloc hK4.out.size _) HzA.out HzB.out
            | exact cells44 hK5.out HzA.out HzB.out
            | exact cells44 (hK5.out.alloc hK5.out.size _) HzA.out HzB.out
            | exact cells44 ((hK5.out.setCell hf2 _).setCell hf2 _) HzA.out HzB.out)
          (first
        | (go_at_call 57; (first
           | ((with_reducible refine (natural_any _ B' m' cb').mono ?_); rintro e y1 ⟨rfl, hb⟩
              have hK1 : Hid (Below w5.heap.size w5 y1) := Lib.hid (bnext (by first | exact hK0.out | exact hK0.out.alloc (by first | exact Nat.le_refl _ | exact hK0.out.size) _) hb)
              (first | (have kA := heap_at hb kA; have kA1 := cells2g kA) | (have kA : y1.heap[w5.heap.size]? = some (.cells #[.bool false, .slice none 0 0] 29) := heap_at hb (alloc_last w5 _); have kA1 := cells2g kA; have hf2 : w5.heap.size ≤ w5.heap.size := (by first | exact Nat.le_refl _ | exact hK0.out.size)) | skip)
              clear hb)
           | ((with_reducible refine (natural_any _ B m cb).mono ?_); rintro e y3 ⟨rfl, hb⟩
              have hK3 : Hid (Below w5.heap.size w5 y3) := Lib.hid (bnext (by first | exact hK2.out | exact hK2.out.alloc (by first | exact Nat.le_refl _ | exact hK2.out.size) _) hb)
              have Ho3 := Lib.hid (Ho2.out.ext (bnext (by first | exact Below.refl _ _ | exact (Below.refl _ _).alloc (Nat.le_refl _) _) hb))
              (first | (have kA := heap_at hb kA; have kA1 := cells2g kA) | (have kA : y3.heap[y2.heap.size]? = some (.cells #[.bool false, .slice none 0 0] 29) := heap_at hb (alloc_last y2 _); have kA1 := cells2g kA; have hf2 : w5.heap.size ≤ y2.heap.size := (by first | exact Nat.le_refl _ | exact hK2.out.size)) | skip)
              clear hb)))
        | (go_at_call 56; (first
           | (with_reducible refine (imul_any _ b false A B' n ca m' cb' (digits P) (digits D') Hn.out.symm hca hN1 ?c1 Hm'.out.symm hcb' hM2 ?c2).mono ?_
              case c1 => exact hr.out.1.ext (bnext Hw.out (bnext Hb6.out (by first | exact hK1.out | exact hK1.out.alloc (by first | exact Nat.le_refl _ | exact hK1.out.size) _)))
              case c2 => exact hr'.out.2.ext (bnext Hw.out (bnext Hb6.out (by first | exact hK1.out | exact hK1.out.alloc (by first | exact Nat.le_refl _ | exact hK1.out.size) _)))
              rintro e y2 ⟨v2, rfl, hb, ho⟩
              rw [val_digits, val_digits] at ho ⊢
              obtain ⟨A2, c2, rfl, hc2, _⟩ := ho.rv
              have hK2 : Hid (Below w5.heap.size w5 y2) := Lib.hid (bnext (by first | exact hK1.out | exact hK1.out.alloc (by first | exact Nat.le_refl _ | exact hK1.out.size) _) hb)
              have Ho2 : Hid (OwnU w5.heap.size y2 (.slice A2 (digits (P * D')).length c2) (digits (P * D'))) := Lib.hid (ho.mono (Below.size (w := w5) (B := w5.heap.size) (by first | exact hK1.out | exact hK1.out.alloc (by first | exact Nat.le_refl _ | exact hK1.out.size) _)))
              (first | (have kA := heap_at hb kA; have kA1 := cells2g kA) | (have kA : y2.heap[y1.heap.size]? = some (.cells #[.bool false, .slice none 0 0] 29) := heap_at hb (alloc_last y1 _); have kA1 := cells2g kA; have hf2 : w5.heap.size ≤ y1.heap.size := (by first | exact Nat.le_refl _ | exact hK1.out.size)) | skip)
              generalize hs2 : (!(b == false) && decide (0 < P * D')) = s2
              rw [hs2] at HZ
              clear hb ho hs2)
           | (with_reducible refine (imul_any _ b' false A' B n' ca' m cb (digits P') (digits D) Hn'.out.symm hca' hN2 ?c1 Hm.out.symm hcb hM1 ?c2).mono ?_
              case c1 => exact hr'.out.1.ext (bnext Hw.out (bnext Hb6.out (by first | exact hK3.out | exact hK3.out.alloc (by first | exact Nat.le_refl _ | exact hK3.out.size) _)))
              case c2 => exact hr.out.2.ext (bnext Hw.out (bnext Hb6.out (by first | exact hK3.out | exact hK3.out.alloc (by first | exact Nat.le_refl _ | exact hK3.out.size) _)))
              rintro e y4 ⟨v4, rfl, hb, ho⟩
              rw [val_digits, val_digits] at ho ⊢
              obtain ⟨A4, c4, rfl, hc4, _⟩ := ho.rv
              have hK4 : Hid (Below w5.heap.size w5 y4) := Lib.hid (bnext (by first | exact hK3.out | exact hK3.out.alloc (by first | exact Nat.le_refl _ | exact hK3.out.size) _) hb)
              have Ho4 := Lib.hid (Ho3.out.ext (bnext (by first | exact Below.refl _ _ | exact (Below.refl _ _).alloc (Nat.le_refl _) _) hb))
              have Ho5 : Hid (OwnU w5.heap.size y4 (.slice A4 (digits (P' * D)).length c4) (digits (P' * D))) := Lib.hid (ho.mono (Below.size (w := w5) (B := w5.heap.size) (by first | exact hK3.out | exact hK3.out.alloc (by first | exact Nat.le_refl _ | exact hK3.out.size) _)))
              (first | (have kA := heap_at hb kA; have kA1 := cells2g kA) | (have kA : y4.heap[y3.heap.size]? = some (.cells #[.bool false, .slice none 0 0] 29) := heap_at hb (alloc_last y3 _); have kA1 := cells2g kA; have hf2 : w5.heap.size ≤ y3.heap.size := (by first | exact Nat.le_refl _ | exact hK3.out.size)) | skip)
              generalize hs4 : (!(b' == false) && decide (0 < P' * D)) = s4
              rw [hs4] at HZ
              clear hb ho hs4)))
        | (go_at_call 60; refine (iadd_any _ s2 s4 A2 A4 _ c2 _ c4 (digits (P * D')) (digits (P' * D)) rfl hc2 (by have := HlN.out; omega) ?c1 rfl hc4 (by have := HlD.out; omega) ?c2).mono ?_
           case c1 => exact Ho4.out.ru.ext (by first | exact Below.refl _ _ | exact (Below.refl _ _).alloc (Nat.le_refl _) _)
           case c2 => exact Ho5.out.ru.ext (by first | exact Below.refl _ _ | exact (Below.refl _ _).alloc (Nat.le_refl _) _)
           rintro e y5 ⟨v5, rfl, hb, ho⟩
           rw [val_digits, val_digits, HZ.out] at ho ⊢
           obtain ⟨A5, c5, rfl, hc5, _⟩ := ho.rv
           have hK5 : Hid (Below w5.heap.size w5 y5) := Lib.hid (bnext (by first | exact hK4.out | exact hK4.out.alloc (by first | exact Nat.le_refl _ | exact hK4.out.size) _) hb)
           (first | (have hlt := heap_lt kA; have kA := heap_at hb kA; have kA1 := cells2g kA) | (have hlt : y4.heap.size < (y4.alloc (.cells #[.bool false, .slice none 0 0] 29)).heap.size := (by simp); have kA : y5.heap[y4.heap.size]? = some (.cells #[.bool false, .slice none 0 0] 29) := heap_at hb (alloc_last y4 _); have kA1 := cells2g kA; have hf2 := hK4.out.size) | skip)
           have Ho6 := Lib.hid ho
           generalize hbz : decide (z < 0) = bz
           have Hbz := Lib.hid hbz
           clear hb ho hbz))
        all_goals (go_wp2; go_meet)
        all_goals first
          | exact ⟨_, _, _, rfl, Lib.hid Hbz.out.symm, hK5.out.alloc hK5.out.size _, hK5.out.size, alloc_last y5 _, (Ho6.out.alloc _).mono hK4.out.size⟩
          | exact ⟨_, _, _, rfl, Lib.hid Hbz.out.symm, (hK5.out.setCell hf2 _).setCell hf2 _, hf2, heap_set (heap_set kA), ((Ho6.out.setBelow hlt _).setBelow hlt _).mono hK4.out.size⟩
          | exact ⟨_, _, _, rfl, Lib.hid Hbz.out.symm, (hK5.out.setCell hf2 _).setCell hf2 _, hf2, heap_set (heap_set kA), ((Ho6.out.setBelow hlt _).setBelow hlt _).mono (Nat.le_trans hK4.out.size (by simp))⟩
      case rest =>
        obtain ⟨f, sZ, uZ, rfl, HsZ, hbZ, hfZ, hzZ, hoZ⟩ := hcut
        obtain ⟨AZ, cZ, rfl, hcZ, _⟩ := hoZ.rv
        have HbZ := Lib.hid (bnext Hb6.out hbZ); have HzZ := Lib.hid hzZ; have HoZ := Lib.hid hoZ
        have HzC := Lib.hid (heap_at hbZ HzA.out); have HzD := Lib.hid (heap_at hbZ HzB.out)
        clear hbZ hzZ hoZ hS0 hK0
        have hK0 := Lib.hid (Drew.below (Drew.refl wc).step1)
        have hS0 := cells442 hK0.out HzC.out HzD.out HzZ.out
        have Hfin : Hid (fr sZ z.natAbs (D * D') = x + y) := Lib.hid (by rw [HsZ.out, fr_z]; exact Hsum.out)
        have Hdnz : Hid (D * D' ≠ 0) := Lib.hid (Nat.mul_ne_zero Hdn.out Hdn'.out)
        have hlZ := HlZ.out; have hlQ := HlQ.out
        have hN1 : m ≤ 1073741824 := by omega
        have hN2 : m' ≤ 1073741824 := by omega
        have hN3 : (digits (D * D')).length ≤ 1073741824 := by omega
        have HN3 := Lib.hid hN3; have HlZ' := Lib.hid hlZ
        clear hN3 hlQ hlZ
        have hBk : Below W.heap.size W wc := HbZ.out
        have HBk := Lib.hid hBk
        clear hBk
        have hrg : w.heap.size + 1 + 1 ≠ g := Nat.ne_of_lt (Nat.lt_of_lt_of_le hB1 hg)
        have hrk : w.heap.size + 1 + 1 ≠ k := Nat.ne_of_lt (Nat.lt_of_lt_of_le hB1 hk)
        have hrf : w.heap.size + 1 + 1 ≠ f := Nat.ne_of_lt (Nat.lt_of_lt_of_le (Nat.lt_of_lt_of_le hB1 Hb6.out.size) hfZ)
        go_upto_region 7 with fail
        go_region_held3 (fun w' => w'.cell? ⟨g, 0, none⟩ = some (.bool b) ∧ w'.cell? ⟨g, 1, none⟩ = some (.slice A n ca) ∧ w'.cell? ⟨g, 2, none⟩ = some (.slice B m cb) ∧ w'.cell? ⟨g, 3, none⟩ = some (.bool true) ∧ w'.cell? ⟨k, 0, none⟩ = some (.bool b') ∧ w'.cell? ⟨k, 1, none⟩ = some (.slice A' n' ca') ∧ w'.cell? ⟨k, 2, none⟩ = some (.slice B' m' cb') ∧ w'.cell? ⟨k, 3, none⟩ = some (.bool false) ∧ w'.cell? ⟨f, 0, none⟩ = some (.bool sZ) ∧ w'.cell? ⟨f, 1, none⟩ = some (.slice AZ (digits z.natAbs).length cZ))
          (first
            | exact hS0
            | exact cells442 hK1.out HzC.out HzD.out HzZ.out
            | exact cells442 hK2.out HzC.out HzD.out HzZ.out
            | exact cells442r hK2.out hrg hrk hrf HzC.out HzD.out HzZ.out)
          (first
          | (go_at_call 62; refine (mul_any _ B B' m cb m' cb' (digits D) (digits D') Hm.out.symm hcb (by omega) ?c1 Hm'.out.symm hcb' (by omega) ?c2).mono ?_
             case c1 => exact hr.out.2.ext (bnext Hw.out (bnext HbZ.out hK0.out))
             case c2 => exact hr'.out.2.ext (bnext Hw.out (bnext HbZ.out hK0.out))
             rintro e y1 ⟨v1, rfl, hb, ho⟩
             rw [val_digits, val_digits] at ho
             obtain ⟨A1, c1, rfl, hc1, _⟩ := ho.rv
             have hK1 := Lib.hid (bnext hK0.out hb)
             have Ho1 := Lib.hid ho
             clear hb ho)
          | (go_at_call 59; refine (lowest_any _ sZ AZ A1 _ cZ _ c1 (digits z.natAbs) (digits (D * D')) rfl hcZ HlZ'.out ?c1 rfl hc1 HN3.out Ho1.out.ru (by rw [val_digits]; exact Hdnz.out)).mono ?_
             case c1 => exact HoZ.out.ru.ext hK1.out
             rintro e y2 ⟨v2, rfl, hb, ho⟩
             rw [val_digits, val_digits, Hfin.out] at ho
             obtain ⟨b9, A9, n9, c9, B9, m9, d9, rfl, _, _, _, _⟩ := ho.rv.cut
             have hK2 := Lib.hid (bnext hK1.out hb)
             have Ho2 := Lib.hid ho
             have HbR := Lib.hid (bnext HbZ.out hK2.out)
             clear hb ho
             obtain ⟨k1, k2, k3⟩ := cells3 HbR.out hB1 Hp.out.2.2.1
             have k4 := thaw' HbR.out hB1 Hp.out.2.2.1 0; have k5 := thaw' HbR.out hB1 Hp.out.2.2.1 1; have k6 := thaw' HbR.out hB1 Hp.out.2.2.1 2))
        all_goals go_wp2
        all_goals (refine bodyPost_ret (v := .agg #[.bool b9, .slice A9 n9 c9, .slice B9 m9 d9]) ?_ rfl ⟨_, rfl, ?_, ?_⟩)
        all_goals first
          | (rw [results_cell1 rfl]; simp [go_sem, asAddr, Result.andThen, k1, k2, k3]; done)
          | exact bset3 (bnext Hw.out HbR.out) (Nat.le_trans (Nat.le_succ _) (Nat.le_succ _)) _ _ _
          | exact (Ho2.out.set3 (Nat.lt_of_lt_of_le (Nat.lt_of_lt_of_le hB1 HbZ.out.size) hK1.out.size) _ _ _).mono (Nat.le_trans (bnext Hw.out HbZ.out).size hK1.out.size)
end Go.Proofs.YtckiojofncdoeaaGreatDoor
