/- integer.Of(10), rational.Of(10), rational.Pow. -/
import Derived.Test.YtckiojofncdoeaaGreatDoorRatC
import Derived.Test.YtckiojofncdoeaaGreatDoorNatJ
namespace Go.Proofs.YtckiojofncdoeaaGreatDoor
open Go.RowKit

theorem iof10_any (w : World) : Calls Tryz.prog 53 #[.int .i64 10] w fun e w' => ∃ v, e = .returned (.agg #[.bool false, v]) ∧ Below w.heap.size w w' ∧ OwnU w.heap.size w' v (digits 10) := by
  have Hlit := Lib.hid (own_litU (w.alloc (.cells #[.bool false, .slice none 0 0] 29)) w.heap.size [(10 : Int), 0] (Wf.cons (by omega) (by omega) (Wf.one (by omega) (by omega))) (by simp) (by simp))
  have Hw := Lib.hid (btwo (w := w) (.cells #[.bool false, .slice none 0 0] 29) (.cells #[.int .u32 10, .int .u32 0] 67))
  have Hp := Lib.hid (push2 w (.cells #[.bool false, .slice none 0 0] 29) (.cells #[.int .u32 10, .int .u32 0] 67))
  go_enter Tryz.func53, Tryz.ntmps53
  go_wp2_with fail
  refine (trim_any _ (some ⟨w.heap.size + 1, 0, none⟩) 2 2 [(10 : Int), 0] rfl (Nat.le_refl _) (by omega) ?_).mono ?_
  · have h := Hlit.out.ru
    simpa using h
  rintro e w1 ⟨v, rfl, hb1, ho1⟩
  have e10 : val [(10 : Int), 0] = 10 := by rw [val_cons, val_one]; rfl
  rw [e10] at ho1
  obtain ⟨A1, c1, rfl, hc1, _⟩ := ho1.rv
  have Hb1 := Lib.hid hb1; have Ho1 := Lib.hid ho1; clear hb1 ho1 e10 Hlit
  have hB0 := Hp.out.2.2
  generalize ((w.alloc (.cells #[.bool false, .slice none 0 0] 29)).alloc (.cells #[.int .u32 10, .int .u32 0] 67)) = W at *
  have hBW : w.heap.size < W.heap.size := by rw [hB0]; omega
  clear hB0
  go_wp2_with fail
  refine (signed_any' w1 false A1 _ c1).mono ?_
  rintro e w2 ⟨b, rfl, hb, hb2⟩
  have hbf : b = false := hb.out
  subst hbf
  have Hb2 := Lib.hid (bnext Hb1.out hb2); have Ho2 := Lib.hid (Ho1.out.ext hb2); clear hb2 Ho1 hb
  obtain ⟨k1, k3⟩ := cells2 Hb2.out hBW Hp.out.1; have k2 := thaw' Hb2.out hBW Hp.out.1 0; have k4 := thaw' Hb2.out hBW Hp.out.1 1
  go_wp2
  refine bodyPost_ret (v := .agg #[.bool false, .slice A1 (digits 10).length c1]) ?_ rfl ⟨_, rfl, ?_, ?_⟩
  · rw [results_cell1 rfl]; simp [go_sem, asAddr, Result.andThen, k1, k3]
  · exact ((bnext Hw.out Hb2.out).setCell (Nat.le_refl _) _).setCell (Nat.le_refl _) _
  · exact ((Ho2.out.setBelow hBW _).setBelow hBW _).mono (Nat.le_of_lt hBW)

theorem rof10_any (w : World) : Calls Tryz.prog 28 #[.int .i64 10] w fun e w' => ∃ v, e = .returned v ∧ Below w.heap.size w w' ∧ RatO w.heap.size w' v ((10 : Nat) : Rat) := by
  have hf := fr_natCast 10
  generalize (((10 : Nat) : Rat)) = q at *
  have Hf := Lib.hid hf; clear hf
  have hw1 : Below w.heap.size w (w.alloc (.cells #[.bool false, .slice none 0 0, .slice none 0 0] 31)) := (Below.refl _ _).alloc (Nat.le_refl _) _
  have hl := alloc_last w (.cells #[.bool false, .slice none 0 0, .slice none 0 0] 31)
  have hsz : w.heap.size < (w.alloc (.cells #[.bool false, .slice none 0 0, .slice none 0 0] 31)).heap.size := by simp
  have Hw := Lib.hid hw1; have Hp := Lib.hid hl
  clear hw1 hl
  go_enter Tryz.func28, Tryz.ntmps28
  go_wp2_with fail
  generalize (w.alloc (.cells #[.bool false, .slice none 0 0, .slice none 0 0] 31)) = W at *
  refine (iof10_any W).mono ?_
  rintro e w1 ⟨v, rfl, hb1, ho1⟩
  obtain ⟨A1, c1, rfl, hc1, _⟩ := ho1.rv
  have Hb1 := Lib.hid hb1; have Ho1 := Lib.hid ho1; clear hb1 ho1
  go_wp2_with fail
  refine (whole_any w1 false A1 _ c1).mono ?_
  rintro e w2 ⟨g, rfl, hb2, ho2⟩
  rw [show [(1 : Int)] = digits 1 from (digits_one (by decide) (by decide)).symm] at ho2
  have Hb2 := Lib.hid (bnext Hb1.out hb2); have Ho2 := Lib.hid (Ho1.out.ext hb2); have Ho3 := Lib.hid ho2; clear hb2 ho2 Ho1
  obtain ⟨k1, k2, k3⟩ := cells3 Hb2.out hsz Hp.out
  have k4 := thaw' Hb2.out hsz Hp.out 0; have k5 := thaw' Hb2.out hsz Hp.out 1; have k6 := thaw' Hb2.out hsz Hp.out 2
  go_wp2
  refine bodyPost_ret (v := .agg #[.bool false, .slice A1 (digits 10).length c1, .slice (some ⟨g, 0, none⟩) 1 1]) ?_ rfl ⟨_, rfl, ?_, ?_⟩
  · rw [results_cell1 rfl]; simp [go_sem, asAddr, Result.andThen, k1, k2, k3]
  · exact bset3 (bnext Hw.out Hb2.out) (Nat.le_refl _) _ _ _
  · exact RatO.of Hf.out ((Ho2.out.set3 hsz _ _ _).mono (Nat.le_of_lt hsz)) ((Ho3.out.set3 (Nat.lt_of_lt_of_le hsz Hb1.out.size) _ _ _).mono (bnext Hw.out Hb1.out).size)

theorem rpow_any (w : World) (v : Value) (q : Rat) (k : Nat) (hv : RatV w v q) (hk : k ≤ 64) (hs : (digits q.num.natAbs).length ≤ 1000000) (hs' : (digits q.den).length ≤ 1000000) (hn0 : 0 ≤ q.num) :
    Calls Tryz.prog 27 #[v, .int .i64 k] w fun e w' => ∃ u, e = .returned (.tuple #[u, .int .i64 0]) ∧ Below w.heap.size w w' ∧ RatO w.heap.size w' u (q ^ k) := by
  have hself := fr_self q
  have hpw : decide ((q ^ k).num < 0) = false ∧ (q ^ k).num.natAbs = q.num.natAbs ^ k ∧ (q ^ k).den = q.den ^ k := by
    obtain ⟨h1, h2⟩ := fr_pow q k
    rw [h1, h2]
    refine ⟨decide_eq_false ?_, Int.natAbs_pow _ _, rfl⟩
    have h3 : 0 ≤ q.num ^ k := Int.pow_nonneg hn0
    omega
  have Hpw := Lib.hid hpw; clear hpw
  have hdn := Lib.hid q.den_nz
  obtain ⟨b, A, n, ca, B, m, cb, rfl, hx, hca, hcb, hr⟩ := hv.cut
  have hbf : b = false := by rw [hx.out.1]; exact decide_eq_false (by omega)
  subst hbf
  obtain ⟨P, hP⟩ : ∃ P, P = q.num.natAbs := ⟨_, rfl⟩
  obtain ⟨D, hD⟩ : ∃ D, D = q.den := ⟨_, rfl⟩
  have hfr : fr false P D = q := by rw [hP, hD]; have e := hx.out.1; rw [← e] at hself; exact hself
  have Hfr := Lib.hid hfr; clear hfr hself
  rw [← hP, ← hD] at hx hr Hpw
  rw [← hP] at hs; rw [← hD] at hs'
  have HPq := Lib.hid hP; have HDq := Lib.hid hD
  have Hdn : Hid (D ≠ 0) := Lib.hid (by rw [hD]; exact hdn.out)
  have hn := hx.out.2.1; have hm := hx.out.2.2
  have Hn := Lib.hid hn; have Hm := Lib.hid hm
  rw [← hn] at hs; rw [← hm] at hs'
  clear hx hdn hn hm hP hD hn0
  have Hw := Lib.hid (btwo (w := w) (.cells #[.bool false, .slice A n ca, .slice B m cb] 31) (.cells #[.bool false, .slice none 0 0, .slice none 0 0] 31))
  have Hp := Lib.hid (push2 w (.cells #[.bool false, .slice A n ca, .slice B m cb] 31) (.cells #[.bool false, .slice none 0 0, .slice none 0 0] 31))
  go_enter Tryz.func27, Tryz.ntmps27
  go_wp2_with fail
  generalize ((w.alloc (.cells #[.bool false, .slice A n ca, .slice B m cb] 31)).alloc (.cells #[.bool false, .slice none 0 0, .slice none 0 0] 31)) = W at *
  have hB1 : w.heap.size + 1 < W.heap.size := by rw [Hp.out.2.2]; omega
  have ht := rtrim_any W P D Hdn.out false A B ca cb (by rw [← Hn.out]; exact hca) (by rw [← Hm.out]; exact hcb) (by rw [← Hn.out]; omega) (by rw [← Hm.out]; omega) (hr.out.1.ext Hw.out) (hr.out.2.ext Hw.out)
  rw [← Hn.out, ← Hm.out, Hfr.out] at ht
  refine ht.mono ?_
  rintro e w1 ⟨v1, rfl, hb1, ho1⟩
  obtain ⟨b1, A1, n1, c1, B1, m1, d1, rfl, hx1, hc1, hd1, hr1⟩ := ho1.rv.cut
  rw [← HPq.out, ← HDq.out] at hx1 hr1
  have hbf : b1 = false := by
    rw [hx1.out.1]
    have h2 := Hfr.out
    have h3 := mkR_neg false P D Hdn.out
    unfold fr at h2
    rw [h2] at h3
    simpa using h3
  subst hbf
  have Hn1 := Lib.hid hx1.out.2.1; have Hm1 := Lib.hid hx1.out.2.2
  have hn1 : n1 ≤ 1000000 := by rw [Hn1.out, ← Hn.out]; exact hs
  have hm1 : m1 ≤ 1000000 := by rw [Hm1.out, ← Hm.out]; exact hs'
  have hn1k : n1 * k + 1 ≤ 1073741824 := by have := Nat.mul_le_mul hn1 hk; omega
  have hm1k : m1 * k + 1 ≤ 1073741824 := by have := Nat.mul_le_mul hm1 hk; omega
  have Hb1 := Lib.hid hb1
  have Hl := Lib.hid (alloc_last w1 (.cells #[.bool false, .slice A1 n1 c1, .slice B1 m1 d1] 31))
  have hbx : Below w1.heap.size w1 (w1.alloc (.cells #[.bool false, .slice A1 n1 c1, .slice B1 m1 d1] 31)) := (Below.refl _ _).alloc (Nat.le_refl _) _
  have hsz : w1.heap.size < (w1.alloc (.cells #[.bool false, .slice A1 n1 c1, .slice B1 m1 d1] 31)).heap.size := by simp
  have Hbx := Lib.hid hbx
  clear hx1 hb1 hbx ho1 ht
  go_wp2_with fail
  generalize (w1.alloc (.cells #[.bool false, .slice A1 n1 c1, .slice B1 m1 d1] 31)) = X at *
  have HbX := Lib.hid (bnext Hb1.out Hbx.out)
  refine (pow_any X A1 n1 c1 k (digits P) Hn1.out.symm hc1 (by omega) (by omega) hk (hr1.out.1.ext Hbx.out)).mono ?_
  rintro e w3 ⟨v3, rfl, hb3, ho3⟩
  rw [val_digits] at ho3
  obtain ⟨A3, c3, rfl, hc3, _⟩ := ho3.rv
  have Hb3 := Lib.hid hb3; have Ho3 := Lib.hid ho3; clear hb3 ho3
  obtain ⟨a1, a2, a3⟩ := cells3 Hb3.out hsz Hl.out
  go_wp2_with fail
  refine (pow_any w3 B1 m1 d1 k (digits D) Hm1.out.symm hd1 (by omega) (by omega) hk (hr1.out.2.ext (bnext Hbx.out Hb3.out))).mono ?_
  rintro e w4 ⟨v4, rfl, hb4, ho4⟩
  rw [val_digits] at ho4
  obtain ⟨A4, c4, rfl, hc4, _⟩ := ho4.rv
  have Hb4 := Lib.hid (bnext Hb3.out hb4); have Ho4 := Lib.hid ho4; have Ho5 := Lib.hid (Ho3.out.ext hb4); clear hb4 ho4 Ho3
  obtain ⟨b1, b2, b3⟩ := cells3 Hb4.out hsz Hl.out
  have HbW := Lib.hid (bnext HbX.out Hb4.out)
  obtain ⟨k1, k2, k3⟩ := cells3 HbW.out hB1 Hp.out.2.1
  have k4 := thaw' HbW.out hB1 Hp.out.2.1 0; have k5 := thaw' HbW.out hB1 Hp.out.2.1 1; have k6 := thaw' HbW.out hB1 Hp.out.2.1 2
  go_wp2
  refine bodyPost_ret (v := .tuple #[.agg #[.bool false, .slice A3 (digits (P ^ k)).length c3, .slice A4 (digits (D ^ k)).length c4], .int .i64 0]) ?_ rfl ⟨_, rfl, ?_, ?_⟩
  · rw [results_cell_tmp rfl]; simp [go_sem, asAddr, Result.andThen, k1, k2, k3]
  · exact bset3 (bnext Hw.out HbW.out) (Nat.le_succ _) _ _ _
  · have hx1 : w.heap.size + 1 < X.heap.size := Nat.lt_of_lt_of_le hB1 HbX.out.size
    have hx3 : w.heap.size + 1 < w3.heap.size := Nat.lt_of_lt_of_le hx1 Hb3.out.size
    exact RatO.of Hpw.out ((Ho5.out.set3 hx1 _ _ _).mono (Nat.le_of_lt (Nat.lt_of_succ_lt hx1))) ((Ho4.out.set3 hx3 _ _ _).mono (Nat.le_of_lt (Nat.lt_of_succ_lt hx3)))
end Go.Proofs.YtckiojofncdoeaaGreatDoor
