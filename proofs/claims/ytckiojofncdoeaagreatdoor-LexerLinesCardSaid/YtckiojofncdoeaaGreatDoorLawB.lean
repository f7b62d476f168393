/- the law's sanity check. -/
import Derived.Test.YtckiojofncdoeaaGreatDoorLawA
namespace Go.Proofs.YtckiojofncdoeaaGreatDoor
open Go.RowKit Go.Deep

/-- two readable rationals, compared -/
theorem r3same_rat (w : World) (v u : Value) (x y : Rat) (hv : RatV w v x) (hu : RatV w u y) (hs : (digits x.num.natAbs).length ≤ 1000000) (hs' : (digits x.den).length ≤ 1000000) (ht : (digits y.num.natAbs).length ≤ 1000000) (ht' : (digits y.den).length ≤ 1000000) :
    Calls Tryz.prog 13 #[v, u] w fun e w' => e = .returned (.bool ((decide (x.num < 0) == decide (y.num < 0)) && decide (digits x.num.natAbs = digits y.num.natAbs) && decide (digits x.den = digits y.den))) ∧ Below w.heap.size w w' := by
  obtain ⟨A, ca, B, cb, rfl, hca, hcb, hA, hB⟩ := hv
  obtain ⟨A', ca', B', cb', rfl, hca', hcb', hA', hB'⟩ := hu
  exact r3same_any w _ _ A B A' B' _ ca _ cb _ ca' _ cb' _ _ _ _ rfl hca (by omega) hA rfl hcb (by omega) hB rfl hca' (by omega) hA' rfl hcb' (by omega) hB'

theorem r3same_refl (w : World) (v u : Value) (x : Rat) (hv : RatV w v x) (hu : RatV w u x) (hs : (digits x.num.natAbs).length ≤ 1000000) (hs' : (digits x.den).length ≤ 1000000) :
    Calls Tryz.prog 13 #[v, u] w fun e w' => e = .returned (.bool true) ∧ Below w.heap.size w w' := by
  refine (r3same_rat w v u x x hv hu hs hs' hs hs').mono ?_
  rintro e w' ⟨rfl, hb⟩
  exact ⟨ret_bool (by simp), hb⟩

set_option maxRecDepth 20000 in
set_option maxHeartbeats 3200000 in
theorem awake_any (w : World) (T : Tab w) : Calls Tryz.prog 7 #[] w fun e w' => e = .returned (.bool true) ∧ Below w.heap.size w w' := by
  have HT := Lib.hid T; clear T
  have hsm : (digits (fr true 1 4).num.natAbs).length ≤ 1000000 ∧ (digits (fr true 1 4).den).length ≤ 1000000 := by
    have h := fr_small (P := 1) (Q := 4) (i := 1) (j := 1) (by decide) (by decide) (by decide) (k := 1000000) (by decide) (by decide)
    have e1 : (fr true 1 4).num.natAbs = (fr false 1 4).num.natAbs := by decide +kernel
    have e2 : (fr true 1 4).den = (fr false 1 4).den := by decide +kernel
    rw [e1, e2]; exact h
  have Hsm := Lib.hid hsm; clear hsm
  generalize hq : fr true 1 4 = q at *
  have Hn1 : Hid (numOf [45, 48, 46, 50, 53] = some q) := Lib.hid (by rw [← hq]; exact aw_num1)
  have Hfr : Hid (∀ w : World, Calls Tryz.prog 16 #[.int .i64 (-1), .int .i64 4] w fun e w' => ∃ v, e = .returned v ∧ Below w.heap.size w w' ∧ RatO w.heap.size w' v q) := Lib.hid (by rw [← hq]; exact r3frac_m14)
  clear hq
  go_enter Tryz.func7, Tryz.ntmps7
  go_wp2_with fail
  refine (number_any w HT.out ⟨#[45, 48, 46, 50, 53]⟩ (by decide)).mono ?_
  rintro e w1 ⟨hb1, _, hy1⟩
  obtain ⟨v1, rfl, ho1⟩ := hy1 q Hn1.out
  obtain ⟨b1, A1, n1, c1, B1, m1, d1, rfl, _, _, _, _⟩ := ho1.rv.cut
  have hal1 : Below w1.heap.size w1 (w1.alloc (.cells #[.bool b1, .slice A1 n1 c1, .slice B1 m1 d1] 31)) := (Below.refl _ _).alloc (Nat.le_refl _) _
  have hx1 := alloc_last w1 (.cells #[.bool b1, .slice A1 n1 c1, .slice B1 m1 d1] 31)
  have Hb1 := Lib.hid (bnext hb1 hal1); have Ho1 := Lib.hid (ho1.ext hal1); have Hx1 := Lib.hid hx1
  clear hb1 hy1 ho1 hal1 hx1
  go_upto_region 2 with fail
  generalize (w1.alloc (.cells #[.bool b1, .slice A1 n1 c1, .slice B1 m1 d1] 31)) = X1 at *
  go_wp2_with fail
  refine (number_any X1 (HT.out.ext Hb1.out) ⟨#[49, 47, 48]⟩ (by decide)).mono ?_
  rintro e w2 ⟨hb2, hn2, _⟩
  obtain rfl := hn2 aw_num2
  have hal2 : Below w2.heap.size w2 (w2.alloc (.cells #[.bool false, .slice none 0 0, .slice none 0 0] 31)) := (Below.refl _ _).alloc (Nat.le_refl _) _
  have Hb2 := Lib.hid (bnext Hb1.out (bnext hb2 hal2)); have Ho2 := Lib.hid (Ho1.out.ext (bnext hb2 hal2)); have Hx2 := Lib.hid (heap_at (bnext hb2 hal2) Hx1.out)
  clear hb2 hn2 hal2
  go_upto_region 3 with fail
  generalize (w2.alloc (.cells #[.bool false, .slice none 0 0, .slice none 0 0] 31)) = X2 at *
  have htk := tokens_any X2 (HT.out.ext Hb2.out) ⟨#[102, 105, 114, 32, 51, 32, 35, 32, 120, 10]⟩ (by decide)
  rw [aw_lines] at htk
  have Htk := Lib.hid htk; clear htk
  go_upto_region 4 with (go_at_call 8; refine Htk.out.mono ?_; rintro e w3 ⟨hb3, _, v3, rfl, htoks⟩; obtain ⟨A3, cap3, rfl⟩ := htoks.slice; have Hb3 := Lib.hid hb3; have Hts := Lib.hid htoks; clear hb3 htoks)
  obtain ⟨g, cp, tx0, x0, y0, e0, hcap0, ht0, _, _, _, f1, _, _, _, _, _⟩ := Hts.out.at_ 0 _ rfl
  obtain ⟨g', cp', tx1, x1, y1, e1, _, _, _, _, f2, _, _, _, _, _, _⟩ := Hts.out.at_ 1 _ rfl
  obtain ⟨g2, cp2, tx2, x2, y2, e2, _, _, _, _, f3, _, _, _, _, _, f4⟩ := Hts.out.at_ 2 _ rfl
  simp only [Value.slice.injEq, true_and] at e0 e1 e2
  obtain ⟨rfl, rfl⟩ := e0
  obtain ⟨e1, _⟩ := e1
  obtain ⟨e2, _⟩ := e2
  simp only [Option.some.injEq, Addr.mk.injEq, and_true] at e1 e2
  subst e1
  subst e2
  obtain rfl : tx0 = ⟨#[102, 105, 114]⟩ := bytes_ext ht0
  have Hx3 := Lib.hid (heap_at Hb3.out Hx2.out)
  have hcp : (3 : Nat) ≤ cap3 := hcap0
  have hS : ∀ w' : World, Below w3.heap.size w3 w' → w'.cell? ⟨w1.heap.size, 0, none⟩ = some (.bool b1) ∧ w'.cell? ⟨w1.heap.size, 1, none⟩ = some (.slice A1 n1 c1) ∧ w'.cell? ⟨w1.heap.size, 2, none⟩ = some (.slice B1 m1 d1) ∧ w'.cell? ⟨g, 1, none⟩ = some (.string ⟨#[102, 105, 114]⟩) ∧ w'.cell? ⟨g, 7, none⟩ = some (.int .i64 2) ∧ w'.cell? ⟨g, 14, none⟩ = some (.int .i64 3) ∧ w'.cell? ⟨g, 20, none⟩ = some (.int .i64 9) := fun w' hb =>
    ⟨cell_below hb (cells3f Hx3.out).1, cell_below hb (cells3f Hx3.out).2.1, cell_below hb (cells3f Hx3.out).2.2.1, cell_below hb f1, cell_below hb f2, cell_below hb f3, cell_below hb f4⟩
  have HS := Lib.hid hS
  have Hb0 := Lib.hid (Drew.below (Drew.refl w3).step1)
  have hS0 := hS _ Hb0.out
  clear f1 f2 f3 f4 hS hcap0 ht0
  go_region_held3 (fun w' => w'.cell? ⟨w1.heap.size, 0, none⟩ = some (.bool b1) ∧ w'.cell? ⟨w1.heap.size, 1, none⟩ = some (.slice A1 n1 c1) ∧ w'.cell? ⟨w1.heap.size, 2, none⟩ = some (.slice B1 m1 d1) ∧ w'.cell? ⟨g, 1, none⟩ = some (.string ⟨#[102, 105, 114]⟩) ∧ w'.cell? ⟨g, 7, none⟩ = some (.int .i64 2) ∧ w'.cell? ⟨g, 14, none⟩ = some (.int .i64 3) ∧ w'.cell? ⟨g, 20, none⟩ = some (.int .i64 9))
    (first | exact hS0 | exact HS.out _ Hb4.out | exact HS.out _ Hb5.out)
    (first
    | (go_at_call 16; refine (Hfr.out _).mono ?_; rintro e w4 ⟨v4, rfl, hb4, ho4⟩; obtain ⟨b4, A4, n4, c4, B4, m4, d4, rfl, _, _, _, _⟩ := ho4.rv.cut; have Hb4 := Lib.hid (bnext Hb0.out hb4); have Ho4 := Lib.hid ho4; clear hb4 ho4)
    | (go_at_call 13; refine (r3same_refl _ _ _ q ?c1 Ho4.out.rv Hsm.out.1 Hsm.out.2).mono ?_
       case c1 => exact (Ho2.out.ext (bnext Hb3.out Hb4.out)).rv
       rintro e w5 ⟨rfl, hb5⟩; have Hb5 := Lib.hid (bnext Hb4.out hb5); clear hb5))
  all_goals go_wp2
  all_goals go_ret
  all_goals exact ⟨rfl, bnext Hb2.out (bnext Hb3.out Hb5.out)⟩
end Go.Proofs.YtckiojofncdoeaaGreatDoor
