/- reference, layer 3: reduce at one-digit denominators, Frac(-1, 4). -/
import Derived.Test.YtckiojofncdoeaaGreatDoorRefE
namespace Go.Proofs.YtckiojofncdoeaaGreatDoor
open Go.RowKit

set_option maxHeartbeats 1600000 in
theorem r3reduce_one (w : World) (s : Bool) (A B : Option Addr) (n cap m cap' : Nat) (l r : List Int) (hl : l.length = n) (hc : n ≤ cap) (hs : n ≤ 1073741824) (h : RU w A l)
    (hr : r.length = m) (hc' : m ≤ cap') (hs' : m ≤ 1073741824) (h' : RU w B r) (hb : val r < 4294967296) (h0 : val r ≠ 0) (hl0 : val l ≠ 0) :
    Calls Tryz.prog 38 #[.agg #[.bool s, .slice A n cap], .agg #[.bool false, .slice B m cap']] w fun e w' => ∃ v, e = .returned v ∧ Below w.heap.size w w' ∧ RatO w.heap.size w' v (fr s (val l) (val r)) := by
  have hcl := digits_length_val h.wf
  rw [hl] at hcl
  have hcr := digits_length_val h'.wf
  rw [hr] at hcr
  obtain ⟨P, hP⟩ : ∃ a, a = val l := ⟨_, rfl⟩
  obtain ⟨D, hD⟩ : ∃ d, d = val r := ⟨_, rfl⟩
  have HP := Lib.hid hP; have HD := Lib.hid hD
  rw [← hP] at hcl hl0
  rw [← hD] at hcr hb h0
  rw [← hP, ← hD]
  have Hf : Hid (decide ((fr s P D).num < 0) = s ∧ (fr s P D).num.natAbs = P / Nat.gcd P D ∧ (fr s P D).den = D / Nat.gcd P D) := Lib.hid ⟨by unfold fr; rw [mkR_neg s P D h0, decide_eq_true (Nat.pos_of_ne_zero hl0), Bool.and_true], by unfold fr; exact mkR_abs s P D h0, by unfold fr; exact mkR_den s P D h0⟩
  generalize fr s P D = q at *
  have hgl : (digits (Nat.gcd P D)).length ≤ m := Nat.le_trans (digits_length_mono (Nat.gcd_le_right P (Nat.pos_of_ne_zero h0))) hcr
  have hgb : Nat.gcd P D < 4294967296 := Nat.lt_of_le_of_lt (Nat.gcd_le_right P (Nat.pos_of_ne_zero h0)) hb
  have hg0 : Nat.gcd P D ≠ 0 := Nat.ne_of_gt (Nat.gcd_pos_of_pos_right _ (Nat.pos_of_ne_zero h0))
  have hgP : P % Nat.gcd P D = 0 := Nat.mod_eq_zero_of_dvd (Nat.gcd_dvd_left P D)
  have hgD : D % Nat.gcd P D = 0 := Nat.mod_eq_zero_of_dvd (Nat.gcd_dvd_right P D)
  have Hl := Lib.hid hl; have Hr := Lib.hid hr; have Hh := Lib.hid h; have Hh' := Lib.hid h'
  have Hb := Lib.hid hb; have H0 := Lib.hid h0; have Hl0 := Lib.hid hl0; have Hgb := Lib.hid hgb; have Hg0 := Lib.hid hg0; have HgP := Lib.hid hgP; have HgD := Lib.hid hgD
  clear hl hr h h' hP hD hb h0 hl0 hgb hg0 hgP hgD
  have Hw := Lib.hid (bthree (w := w) (.cells #[.bool s, .slice A n cap] 29) (.cells #[.bool false, .slice B m cap'] 29) (.cells #[.bool false, .slice none 0 0, .slice none 0 0] 31))
  have Hp := Lib.hid (push3 w (.cells #[.bool s, .slice A n cap] 29) (.cells #[.bool false, .slice B m cap'] 29) (.cells #[.bool false, .slice none 0 0, .slice none 0 0] 31))
  go_enter Tryz.func38, Tryz.ntmps38
  go_wp2_with fail
  generalize ((w.alloc (.cells #[.bool s, .slice A n cap] 29)).alloc (.cells #[.bool false, .slice B m cap'] 29)).alloc (.cells #[.bool false, .slice none 0 0, .slice none 0 0] 31) = W at *
  have hB0 : w.heap.size < W.heap.size := by rw [Hp.out.2.2.2]; omega
  have hB1 : w.heap.size + 1 < W.heap.size := by rw [Hp.out.2.2.2]; omega
  have hB2 : w.heap.size + 1 + 1 < W.heap.size := by rw [Hp.out.2.2.2]; omega
  refine (r2sign_any W s A n cap l Hl.out hc (by omega) (Hh.out.ext Hw.out) (by rw [← HP.out]; exact Hl0.out)).mono ?_
  rintro e w1 ⟨rfl, hb1⟩
  have q1 := cells2 hb1 hB0 Hp.out.1; have q2 := cells2 hb1 hB1 Hp.out.2.1
  have Hb1 := Lib.hid hb1; clear hb1
  generalize hsg : (if s = true then (-1 : Int) else 1) = sgn
  have hsz : (sgn == 0) = false := by rw [← hsg]; cases s <;> rfl
  clear hsg
  go_wp2_with fail
  refine (r2sign_any w1 false B m cap' r Hr.out hc' (by omega) (Hh'.out.ext (bnext Hw.out Hb1.out)) (by rw [← HD.out]; exact H0.out)).mono ?_
  rintro e w2 ⟨rfl, hb2⟩
  have q3 := cells2 (bnext Hb1.out hb2) hB0 Hp.out.1; have q4 := cells2 (bnext Hb1.out hb2) hB1 Hp.out.2.1
  have Hb2 := Lib.hid (bnext Hb1.out hb2); clear hb2 q1 q2
  simp only [Bool.false_eq_true, if_false]
  go_wp2_with fail
  refine (r2gcd_one w2 s false A B n cap m cap' l r Hl.out hc hs (Hh.out.ext (bnext Hw.out Hb2.out)) Hr.out hc' hs' (Hh'.out.ext (bnext Hw.out Hb2.out)) (by rw [← HD.out]; exact Hb.out)).mono ?_
  rintro e w3 ⟨v3, rfl, hb3, ho3⟩
  rw [← HP.out, ← HD.out] at ho3
  generalize Nat.gcd P D = g at *
  obtain ⟨A3, c3, rfl, hc3, _⟩ := ho3.rv
  have hal3 : Below w3.heap.size w3 (w3.alloc (.cells #[.bool false, .slice A3 (digits g).length c3] 29)) := (Below.refl _ _).alloc (Nat.le_refl _) _
  have hx3 := alloc_last w3 (.cells #[.bool false, .slice A3 (digits g).length c3] 29)
  have q5 := cells2 (bnext (bnext Hb2.out hb3) hal3) hB0 Hp.out.1
  have Hb3 := Lib.hid (bnext (bnext Hb2.out hb3) hal3); have Ho3 := Lib.hid (ho3.ext hal3); have Hx3 := Lib.hid hx3
  have Hb23 := Lib.hid (bnext Hb2.out hb3)
  clear hb3 ho3 hal3 hx3 q3 q4
  go_upto_region 4 with fail
  generalize (w3.alloc (.cells #[.bool false, .slice A3 (digits g).length c3] 29)) = X3 at *
  have q6 := cells2g' Hx3.out
  have hd1 := r2div_exact X3 s A A3 n cap _ c3 l (digits g) Hl.out hc hs (Hh.out.ext (bnext Hw.out Hb3.out)) rfl hc3 (by omega) Ho3.out.ru (by rw [val_digits]; exact Hgb.out) (by rw [val_digits]; exact Hg0.out) (by rw [val_digits, ← HP.out]; exact HgP.out)
  rw [val_digits, ← HP.out, decide_eq_true (Nat.pos_of_ne_zero Hl0.out), Bool.and_true] at hd1
  have Hd1 := Lib.hid hd1; clear hd1
  go_wp2_with fail
  refine Hd1.out.mono ?_
  rintro e w4 ⟨v4, A4, c4, rfl, hb4, ho4⟩
  obtain ⟨A5, c5, rfl, hc5, _⟩ := ho4.rv
  have hal4 : Below w4.heap.size w4 ((w4.alloc (.cells #[.bool s, .slice A5 (digits (P / g)).length c5] 29)).alloc (.cells #[.bool false, .slice A4 0 c4] 29)) := btwo _ _
  have hp4 := push2 w4 (.cells #[.bool s, .slice A5 (digits (P / g)).length c5] 29) (.cells #[.bool false, .slice A4 0 c4] 29)
  have Hb4 := Lib.hid (bnext Hb3.out (bnext hb4 hal4)); have Ho4 := Lib.hid ((ho4.ext hal4).mono Hb3.out.size); have Hp4 := Lib.hid hp4
  have Hx4 := Lib.hid (heap_at (bnext hb4 hal4) Hx3.out); have Ho34 := Lib.hid (Ho3.out.ext (bnext hb4 hal4))
  clear hb4 ho4 hal4 hp4 q5 q6
  go_upto_region 5 with fail
  generalize ((w4.alloc (.cells #[.bool s, .slice A5 (digits (P / g)).length c5] 29)).alloc (.cells #[.bool false, .slice A4 0 c4] 29)) = X4 at *
  have q7 := cells2 Hb4.out hB1 Hp.out.2.1
  have q8 := cells2g' Hx4.out
  have hd2 := r2div_exact X4 false B A3 m cap' _ c3 r (digits g) Hr.out hc' hs' (Hh'.out.ext (bnext Hw.out Hb4.out)) rfl hc3 (by omega) Ho34.out.ru (by rw [val_digits]; exact Hgb.out) (by rw [val_digits]; exact Hg0.out) (by rw [val_digits, ← HD.out]; exact HgD.out)
  rw [val_digits, ← HD.out, Bool.false_and] at hd2
  have Hd2 := Lib.hid hd2; clear hd2
  go_wp2_with fail
  refine Hd2.out.mono ?_
  rintro e w5 ⟨v5, A6, c6, rfl, hb5, ho5⟩
  obtain ⟨A7, c7, rfl, hc7, _⟩ := ho5.rv
  have hal5 : Below w5.heap.size w5 ((w5.alloc (.cells #[.bool false, .slice A7 (digits (D / g)).length c7] 29)).alloc (.cells #[.bool false, .slice A6 0 c6] 29)) := btwo _ _
  have hp5 := push2 w5 (.cells #[.bool false, .slice A7 (digits (D / g)).length c7] 29) (.cells #[.bool false, .slice A6 0 c6] 29)
  have q9 := cells2g' (heap_at (bnext hb5 hal5) Hp4.out.1)
  have q10 := cells2g' hp5.1
  have Hb5 := Lib.hid (bnext Hb4.out (bnext hb5 hal5)); have Ho5 := Lib.hid ((ho5.ext hal5).mono Hb4.out.size); have Ho6 := Lib.hid (Ho4.out.ext (bnext hb5 hal5))
  obtain ⟨k1, k2, k3⟩ := cells3 Hb5.out hB2 Hp.out.2.2.1
  have k4 := thaw' Hb5.out hB2 Hp.out.2.2.1 0; have k5 := thaw' Hb5.out hB2 Hp.out.2.2.1 1; have k6 := thaw' Hb5.out hB2 Hp.out.2.2.1 2
  clear hb5 ho5 hal5 hp5 q7 q8
  go_wp2
  refine bodyPost_ret (v := .agg #[.bool s, .slice A5 (digits (P / g)).length c5, .slice A7 (digits (D / g)).length c7]) ?_ rfl ⟨_, rfl, ?_, ?_⟩
  · rw [results_cell1 rfl]; simp [go_sem, asAddr, Result.andThen, k1, k2, k3]
  · exact bset3 (bnext Hw.out Hb5.out) (Nat.le_trans (Nat.le_succ _) (Nat.le_succ _)) _ _ _
  · exact RatO.of Hf.out ((Ho6.out.set3 hB2 _ _ _).mono Hw.out.size) ((Ho5.out.set3 hB2 _ _ _).mono Hw.out.size)

theorem r3frac_m14 (w : World) : Calls Tryz.prog 16 #[.int .i64 (-1), .int .i64 4] w fun e w' => ∃ v, e = .returned v ∧ Below w.heap.size w w' ∧ RatO w.heap.size w' v (fr true 1 4) := by
  have Hw := Lib.hid (show Below w.heap.size w (w.alloc (.cells #[.bool false, .slice none 0 0, .slice none 0 0] 31)) from (Below.refl _ _).alloc (Nat.le_refl _) _)
  have Hp := Lib.hid (alloc_last w (.cells #[.bool false, .slice none 0 0, .slice none 0 0] 31))
  have hsz : w.heap.size < (w.alloc (.cells #[.bool false, .slice none 0 0, .slice none 0 0] 31)).heap.size := by simp
  go_enter Tryz.func16, Tryz.ntmps16
  go_wp2_with fail
  generalize (w.alloc (.cells #[.bool false, .slice none 0 0, .slice none 0 0] 31)) = W at *
  refine (r2of_m1 W).mono ?_
  rintro e w1 ⟨v1, rfl, hb1, ho1⟩
  obtain ⟨A1, c1, rfl, hc1, _⟩ := ho1.rv
  have Hb1 := Lib.hid hb1; have Ho1 := Lib.hid ho1; clear hb1 ho1
  go_wp2_with fail
  refine (r2of_4 w1).mono ?_
  rintro e w2 ⟨v2, rfl, hb2, ho2⟩
  obtain ⟨A2, c2, rfl, hc2, _⟩ := ho2.rv
  have Hb2 := Lib.hid (bnext Hb1.out hb2); have Ho2 := Lib.hid ho2; have Ho3 := Lib.hid (Ho1.out.ext hb2); clear hb2 ho2 Ho1
  have l1 : (digits 1).length = 1 := by rw [digits_one (by decide) (by decide)]; rfl
  have l4 : (digits 4).length = 1 := by rw [digits_one (by decide) (by decide)]; rfl
  have hrd := r3reduce_one w2 true A1 A2 _ c1 _ c2 (digits 1) (digits 4) rfl hc1 (by omega) Ho3.out.ru rfl hc2 (by omega) Ho2.out.ru (by rw [val_digits]; decide) (by rw [val_digits]; decide) (by rw [val_digits]; decide)
  rw [val_digits, val_digits] at hrd
  have Hrd := Lib.hid hrd; clear hrd l1 l4
  go_wp2_with fail
  refine Hrd.out.mono ?_
  rintro e w3 ⟨v3, rfl, hb3, ho3⟩
  obtain ⟨b9, A9, n9, c9, B9, m9, d9, rfl, _, _, _, _⟩ := ho3.rv.cut
  have Hb3 := Lib.hid (bnext Hb2.out hb3); have Ho9 := Lib.hid ho3
  obtain ⟨k1, k2, k3⟩ := cells3 Hb3.out hsz Hp.out
  have k4 := thaw' Hb3.out hsz Hp.out 0; have k5 := thaw' Hb3.out hsz Hp.out 1; have k6 := thaw' Hb3.out hsz Hp.out 2
  clear hb3 ho3
  go_wp2
  refine bodyPost_ret (v := .agg #[.bool b9, .slice A9 n9 c9, .slice B9 m9 d9]) ?_ rfl ⟨_, rfl, ?_, ?_⟩
  · rw [results_cell1 rfl]; simp [go_sem, asAddr, Result.andThen, k1, k2, k3]
  · exact bset3 (bnext Hw.out Hb3.out) (Nat.le_refl _) _ _ _
  · have hlt : w.heap.size < w2.heap.size := Nat.lt_of_lt_of_le hsz Hb2.out.size
    exact (Ho9.out.set3 hlt _ _ _).mono (Nat.le_of_lt hlt)
end Go.Proofs.YtckiojofncdoeaaGreatDoor
